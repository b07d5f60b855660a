/- The walk of plant.uses. The walk of slices.Reverse on strings. The walk of Book.touchedInput. Plain laws of trails: the way back from a marked item ends at the fault's own item; it is a way that Leads accepts. The walk of Book.Trail. -/
import Derived.Test.YtlanephpmoajiaaRefTo2
namespace Go.Proofs.Ytlanephpmoajiaa
open Go.RowKit
set_option linter.unusedVariables false
theorem enters104 : ∀ args w, (callFunc 104 args).run Try.prog w = .ok (.enter 104 args) w := enters_of Try.func104 (by kernel_rfl) rfl
theorem uses104_any (u : Value) (c : List ByteArray) (S : Nat → Prop) (b : Nat) (nm : ByteArray) (w : World) (hu : Rd .string w S u c) (hb : w.cell? ⟨b, 0, none⟩ = some (.string nm)) :
    Calls Try.prog 104 #[u, .pointer (some ⟨b, 0, none⟩)] w fun e w' => e = .returned (.bool (hasN c nm)) ∧ Below w.heap.size w w' := by
  have HC := Lib.hid (contains94_any u c S nm w hu)
  obtain ⟨A, n, cap, rfl, -⟩ := hu.open_
  clear hu
  go_enter Try.func104, Try.ntmps104
  go_wp2_with (go_at_call 94; refine HC.out.mono ?_; rintro e w' ⟨rfl, rfl⟩)
  go_ret
  exact ⟨rfl, Below.refl _ _⟩
theorem chosenAny (x : ItemD) (nm : ByteArray) : anyIdx (fun i => hasN (x.frm.getD i []) nm) x.frm.length = chosenB x nm := by
  rw [Bool.eq_iff_iff]
  unfold anyIdx chosenB
  rw [List.any_eq_true, List.any_eq_true]
  constructor
  · rintro ⟨i, hi, h⟩
    have hi := List.mem_range.1 hi
    refine ⟨x.frm[i], List.getElem_mem hi, ?_⟩
    simpa [List.getD, List.getElem?_eq_getElem hi] using h
  · rintro ⟨c, hc, h⟩
    obtain ⟨i, hi, rfl⟩ := List.mem_iff_getElem.1 hc
    exact ⟨i, List.mem_range.2 hi, by simpa [List.getD, List.getElem?_eq_getElem hi] using h⟩
set_option maxRecDepth 100000 in
set_option maxHeartbeats 1000000 in
theorem pUses_any (x : ItemD) (vf : Value) (nm : ByteArray) (S : Nat → Prop) (w : World) (hv : Rd2 w S vf x.frm) :
    Calls Try.prog 84 #[.agg #[.string x.name, .int .i64 x.kind, .int .i64 x.at_, vf], .string nm] w fun e w' => e = .returned (.bool (chosenB x nm)) ∧ Below w.heap.size w w' := by
  have HCH := Lib.hid (chosenAny x nm)
  obtain ⟨xn, xk, xa, xf⟩ := x
  simp only at *
  obtain ⟨vs, hvs, hlen, hin⟩ := hv
  obtain ⟨A, n, cap, rfl, hn, -⟩ := hvs.open_
  have h1 := heap_alloc_new w (.cells #[.string xn, .int .i64 xk, .int .i64 xa, .slice A n cap] 37)
  obtain ⟨W2, hW2⟩ : ∃ W2, W2 = (w.alloc (.cells #[.string xn, .int .i64 xk, .int .i64 xa, .slice A n cap] 37)).alloc (.cells #[.string nm] 9) := ⟨_, rfl⟩
  have hb2 : Below w.heap.size w W2 := by rw [hW2]; exact ((Below.refl _ w).alloc (Nat.le_refl _) _).alloc (by simp) _
  have hm0 : W2.heap[w.heap.size]? = some (.cells #[.string xn, .int .i64 xk, .int .i64 xa, .slice A n cap] 37) := by rw [hW2, Below.heap_alloc _ _ _ (by simp)]; exact h1
  have hm1 : W2.heap[w.heap.size + 1]? = some (.cells #[.string nm] 9) := by rw [hW2]; have := heap_alloc_new (w.alloc (.cells #[.string xn, .int .i64 xk, .int .i64 xa, .slice A n cap] 37)) (.cells #[.string nm] 9); simpa using this
  have hcm : W2.cell? ⟨w.heap.size + 1, 0, none⟩ = some (.string nm) := cell_of_row W2 _ 0 _ _ _ hm1
  have hcl : w.heap.size + 1 < W2.heap.size := (Array.getElem?_eq_some_iff.1 hm1).1
  have HCF := Lib.hid (containsFunc92_any (.slice A n cap) vs S 104 #[.pointer (some ⟨w.heap.size + 1, 0, none⟩)] enters104 (fun i => hasN (xf.getD i []) nm) W2 (hvs.below hb2) (fun i u hu w' hb' => by
    have hi : i < xf.length := by rw [← hlen]; exact (List.getElem?_eq_some_iff.1 hu).1
    obtain ⟨u', hu', hr⟩ := hin i xf[i] (List.getElem?_eq_getElem hi)
    obtain rfl := Option.some.inj (hu.symm.trans hu')
    have := uses104_any u xf[i] S (w.heap.size + 1) nm w' ((hr.below hb2).below hb') ((hb'.cell (p := ⟨w.heap.size + 1, 0, none⟩) hcl).trans hcm)
    simpa [List.getD, List.getElem?_eq_getElem hi] using this))
  rw [hlen, HCH.out] at HCF
  have c3 : W2.cell? ⟨w.heap.size, 3, none⟩ = some (.slice A n cap) := cell_of_row W2 _ 3 _ _ _ hm0
  have HW2 := Lib.hid hW2
  have HB2 := Lib.hid hb2
  have k3 : ((w.alloc (.cells #[.string xn, .int .i64 xk, .int .i64 xa, .slice A n cap] 37)).alloc (.cells #[.string nm] 9)).cell? ⟨w.heap.size, 3, none⟩ = some (.slice A n cap) := by rw [← hW2]; exact c3
  clear hvs hlen hin hn h1 hm0 hm1 hcm hcl hW2 hb2 c3 HCH
  go_enter Try.func84, Try.ntmps84
  go_wp2_with fail
  rw [← HW2.out]
  refine HCF.out.mono ?_
  rintro e w' ⟨rfl, hb⟩
  go_wp2_with fail
  go_ret
  exact ⟨rfl, HB2.out.trans (hb.mono HB2.out.size)⟩
end Go.Proofs.Ytlanephpmoajiaa

namespace Go.Proofs.Ytlanephpmoajiaa
open Go.RowKit
set_option linter.unusedVariables false
set_option linter.unusedSimpArgs false
/-- The first k and the last k exchanged. -/
def revUp (l : List ByteArray) (k : Nat) : List ByteArray := (List.range l.length).map (fun t => if t < k ∨ l.length - k ≤ t then l.getD (l.length - 1 - t) ⟨#[]⟩ else l.getD t ⟨#[]⟩)
theorem revUp_len (l : List ByteArray) (k : Nat) : (revUp l k).length = l.length := by simp [revUp]
theorem revUp_get (l : List ByteArray) (k t : Nat) (ht : t < l.length) : (revUp l k)[t]? = some (if t < k ∨ l.length - k ≤ t then l.getD (l.length - 1 - t) ⟨#[]⟩ else l.getD t ⟨#[]⟩) := by
  unfold revUp
  rw [List.getElem?_map, List.getElem?_range ht]
  rfl
theorem revUp_zero (l : List ByteArray) : revUp l 0 = l := by
  refine List.ext_getElem? fun t => ?_
  by_cases ht : t < l.length
  · rw [revUp_get l 0 t ht, if_neg (by omega), List.getElem?_eq_getElem ht]
    simp [List.getD, List.getElem?_eq_getElem ht]
  · rw [List.getElem?_eq_none (by rw [revUp_len]; omega), List.getElem?_eq_none (by omega)]
theorem revUp_end (l : List ByteArray) (k : Nat) (hk : l.length ≤ 2 * k + 1) (hk2 : 2 * k ≤ l.length + 1) : revUp l k = l.reverse := by
  refine List.ext_getElem? fun t => ?_
  by_cases ht : t < l.length
  · rw [revUp_get l k t ht, List.getElem?_reverse ht]
    by_cases h : t < k ∨ l.length - k ≤ t
    · rw [if_pos h, List.getElem?_eq_getElem (by omega), List.getD, List.getElem?_eq_getElem (by omega)]; rfl
    · have e : l.length - 1 - t = t := by omega
      rw [if_neg h]
      simp [e, List.getD, List.getElem?_eq_getElem ht]
  · rw [List.getElem?_eq_none (by rw [revUp_len]; omega), List.getElem?_eq_none (by simp; omega)]
theorem revUp_succ (l : List ByteArray) (k : Nat) (hk : k < l.length - 1 - k) : ((revUp l k).set k (l.getD (l.length - 1 - k) ⟨#[]⟩)).set (l.length - 1 - k) (l.getD k ⟨#[]⟩) = revUp l (k + 1) := by
  refine List.ext_getElem? fun t => ?_
  rw [List.getElem?_set, List.getElem?_set]
  simp only [List.length_set, revUp_len]
  by_cases ht : t < l.length
  · rw [revUp_get l k t ht, revUp_get l (k + 1) t ht]
    by_cases h1 : l.length - 1 - k = t
    · rw [if_pos h1, if_pos (by omega), if_pos (by omega), show l.length - 1 - t = k by omega]
    · rw [if_neg h1]
      by_cases h2 : k = t
      · subst h2
        rw [if_pos rfl, if_pos (by omega), if_pos (by omega)]
      · rw [if_neg h2]
        by_cases h3 : t < k ∨ l.length - k ≤ t
        · rw [if_pos h3, if_pos (by omega)]
        · rw [if_neg h3, if_neg (by omega)]
  · rw [if_neg (by omega), if_neg (by omega), List.getElem?_eq_none (by rw [revUp_len]; omega), List.getElem?_eq_none (by rw [revUp_len]; omega)]
theorem revUp_lo (l : List ByteArray) (k : Nat) (hk : k < l.length - 1 - k) : (revUp l k)[k]? = some (l.getD k ⟨#[]⟩) ∧ (revUp l k)[l.length - 1 - k]? = some (l.getD (l.length - 1 - k) ⟨#[]⟩) := by
  rw [revUp_get l k k (by omega), revUp_get l k _ (by omega), if_neg (by omega), if_neg (by omega)]
  exact ⟨rfl, rfl⟩
set_option maxRecDepth 100000 in
set_option maxHeartbeats 2000000 in
theorem reverse_any (g n cap base : Nat) (l : List ByteArray) (w : World) (hl : l.length = n) (hn : 1 ≤ n) (hn2 : n ≤ 2000) (ho : w.ownsRow base 9 1 (.slice (some ⟨g, 0, none⟩) n cap) n (l.map Value.string)) :
    Calls Try.prog 87 #[.slice (some ⟨g, 0, none⟩) n cap] w fun e w' => (∃ v, e = .returned v) ∧ w'.ownsRow base 9 1 (.slice (some ⟨g, 0, none⟩) n cap) n (l.reverse.map Value.string) ∧ Keep (fun b => b ≠ g) w w' := by
  have HO : Hid (w.ownsRow base 9 1 (.slice (some ⟨g, 0, none⟩) n cap) n ((revUp l 0).map Value.string)) := by rw [revUp_zero]; exact ho
  have HL := Lib.hid hl
  have hi1 : (1 : Int) ≤ (n : Int) := by omega
  have hi2 : (n : Int) ≤ 2000 := by omega
  clear ho hl
  go_enter Try.func87, Try.ntmps87
  go_wp2_with fail
  go_loopw [2, 3] (fun iv jv wr => ∃ k : Nat, 2 * k ≤ n + 1 ∧ iv = .int .i64 k ∧ jv = .int .i64 ((n : Int) - 1 - k) ∧ wr.ownsRow base 9 1 (.slice (some ⟨g, 0, none⟩) n cap) n ((revUp l k).map Value.string) ∧ Keep (fun b => b ≠ g) w wr) (fun iv _ _ => n - (intOf iv).toNat)
  case atStart => exact ⟨0, by omega, rfl, by simp, HO.out, Keep.refl _ _⟩
  case round =>
    clear HO
    obtain ⟨k, hk, rfl, rfl, hrow, hkeep⟩ := hrel
    by_cases hlt : k < n - 1 - k
    · have hlo := revUp_lo l k (by have := HL.out; omega)
      rw [HL.out] at hlo
      have hsu := revUp_succ l k (by have := HL.out; omega)
      rw [HL.out] at hsu
      have c0 := hrow.cellAt k (by simp [revUp_len]; have := HL.out; omega)
      have c1 := hrow.cellAt (n - 1 - k) (by simp [revUp_len]; have := HL.out; omega)
      rw [List.getElem?_map, hlo.1] at c0
      rw [List.getElem?_map, hlo.2] at c1
      have f0 := hrow.frozenAt k
      have f1 := hrow.frozenAt (n - 1 - k)
      obtain ⟨x, hx⟩ : ∃ x, x = l.getD k ⟨#[]⟩ := ⟨_, rfl⟩
      obtain ⟨y, hy⟩ : ∃ y, y = l.getD (n - 1 - k) ⟨#[]⟩ := ⟨_, rfl⟩
      rw [← hx] at c0 hsu
      rw [← hy] at c1 hsu
      obtain ⟨j, hj⟩ : ∃ j, j = n - 1 - k := ⟨_, rfl⟩
      rw [← hj] at c1 f1 hsu
      have hjI : (n : Int) - 1 - (k : Int) = (j : Int) := by omega
      have hkj : k < j := by omega
      have hjn : j < n := by omega
      rw [hjI]
      have hkI1 : (0 : Int) ≤ (k : Int) := by omega
      have hkI2 : (k : Int) < (n : Int) := by omega
      have hjI1 : (0 : Int) ≤ (j : Int) := by omega
      have hjI2 : (j : Int) < (n : Int) := by omega
      have hkjI : (k : Int) < (j : Int) := by omega
      have HJ := Lib.hid hj
      have hne1 : k ≠ j := by omega
      have hne2 : j ≠ k := by omega
      have HSU := Lib.hid hsu
      have HROW := Lib.hid hrow
      have HKP := Lib.hid hkeep
      simp only [Option.map_some] at c0 c1
      clear hlo hsu hx hy hrow hkeep hj hjI hlt
      go_wp2_with fail
      go_region
      all_goals
        have h1 := (HROW.out.stored k (.string y)).1
        have h2 := (h1.stored j (.string x)).1
        rw [← List.map_set, ← List.map_set, HSU.out] at h2
        go_wp2_with fail
        go_roundw
        case rel => exact ⟨k + 1, by have := HJ.out; omega, by go_num, val_int (by have := HJ.out; omega), h2, ((HKP.out.setCell (fun h => h rfl) _).setCell (fun h => h rfl) _).trans (Keep.drew _ _)⟩
        case measure => simp [intOf]; omega
    · have hle : n - 1 - k ≤ k := by omega
      have HROW := Lib.hid hrow
      have HKP := Lib.hid hkeep
      have hnk : ¬ (k : Int) < (n : Int) - 1 - (k : Int) := by omega
      clear hrow hkeep
      go_wp2_with fail
      go_end0
      have h1 := HROW.out
      rw [revUp_end l k (by have := HL.out; omega) (by have := HL.out; omega)] at h1
      exact ⟨⟨_, rfl⟩, by simpa using h1, HKP.out⟩
end Go.Proofs.Ytlanephpmoajiaa

namespace Go.Proofs.Ytlanephpmoajiaa
open Go.RowKit
set_option linter.unusedVariables false
set_option linter.unusedSimpArgs false
/-- Is a choice marked? -/
def markN (xs : List ItemD) (ms : List Bool) (nm : ByteArray) : Bool := match idx xs nm with | some i => ms.getD i false | none => false
/-- The place of the first choice that is marked; 0 if there is none. -/
def tIn (xs : List ItemD) (ms : List Bool) (fs : List (List ByteArray)) : Nat := match (fs.flatten.find? (markN xs ms)) with | some nm => (idx xs nm).getD 0 | none => 0
theorem tIn_hit {xs : List ItemD} {ms : List Bool} {fs : List (List ByteArray)} {a d : Nat} {c : List ByteArray} {nm : ByteArray} {i : Nat} (hc : fs[a]? = some c) (hd : c[d]? = some nm)
    (h1 : ∀ c' ∈ fs.take a, ∀ s ∈ c', markN xs ms s = false) (h2 : ∀ s ∈ c.take d, markN xs ms s = false) (hm : markN xs ms nm = true) (hi : idx xs nm = some i) : tIn xs ms fs = i := by
  have hsplit : fs.flatten = ((fs.take a).flatten ++ c.take d) ++ nm :: (c.drop (d + 1) ++ (fs.drop (a + 1)).flatten) := by
    obtain ⟨ha, hc'⟩ := List.getElem?_eq_some_iff.1 hc
    obtain ⟨hd', hnm⟩ := List.getElem?_eq_some_iff.1 hd
    conv => lhs; rw [← List.take_append_drop a fs, List.drop_eq_getElem_cons ha, hc']
    rw [List.flatten_append, List.flatten_cons]
    conv => lhs; rw [← List.take_append_drop d c, List.drop_eq_getElem_cons hd', hnm]
    simp [List.append_assoc]
  unfold tIn
  have hf : fs.flatten.find? (markN xs ms) = some nm := by
    rw [hsplit, List.find?_append, List.find?_eq_none.2, Option.none_or, List.find?_cons_of_pos hm]
    intro s hs
    rcases List.mem_append.1 hs with hs | hs
    · obtain ⟨c', hc', hs⟩ := List.mem_flatten.1 hs
      rw [h1 c' hc' s hs]; simp
    · rw [h2 s hs]; simp
  rw [hf]
  simp only [hi]
  rfl
theorem tIn_none {xs : List ItemD} {ms : List Bool} {fs : List (List ByteArray)} (h1 : ∀ c' ∈ fs, ∀ s ∈ c', markN xs ms s = false) : tIn xs ms fs = 0 := by
  unfold tIn
  rw [List.find?_eq_none.2]
  intro s hs
  obtain ⟨c', hc', hs⟩ := List.mem_flatten.1 hs
  rw [h1 c' hc' s hs]; simp
set_option maxRecDepth 100000 in
set_option maxHeartbeats 1000000 in
theorem tin_any (p : Value) (B : Nat) (F : Nat → Prop) (xs : List ItemD) (x : ItemD) (vf vm : Value) (ms : List Bool) (S T : Nat → Prop) (w : World) (hb : Bk w B p F xs) (hxl : xs.length ≤ 1024) (hv : Rd2 w S vf x.frm) (hm : Rd .bool w T vm ms) (hml : ms.length = xs.length)
    (hfd : ∀ c ∈ x.frm, ∀ nm ∈ c, nm.size ≤ maxLen ∧ (idx xs nm).isSome = true) :
    Calls Try.prog 88 #[p, .agg #[.string x.name, .int .i64 x.kind, .int .i64 x.at_, vf], vm] w fun e w' => e = .returned (.int .i64 (tIn xs ms x.frm : Nat)) ∧ Below w.heap.size w w' := by
  obtain ⟨xn, xk, xa, xf⟩ := x
  simp only at *
  obtain ⟨bb, vi, r, fs, rfl, hbk⟩ := hb
  obtain ⟨vs, hvs, hlen, hin⟩ := hv.lt
  obtain ⟨A, n1, cap1, rfl, hn1, hcap1, hmax1, hc⟩ := hvs.open_
  obtain ⟨Am, n, capm, rfl, hn, hcapm, hmaxm, hcm⟩ := hm.lt.open_
  obtain ⟨W1, hW1⟩ : ∃ W1, W1 = w.alloc (.cells #[.string xn, .int .i64 xk, .int .i64 xa, .slice A n1 cap1] 37) := ⟨_, rfl⟩
  have hb1 : Below w.heap.size w W1 := by rw [hW1]; exact (Below.refl _ w).alloc (Nat.le_refl _) _
  have hm1 := heap_alloc_new w (.cells #[.string xn, .int .i64 xk, .int .i64 xa, .slice A n1 cap1] 37)
  rw [← hW1] at hm1
  have c3 : W1.cell? ⟨w.heap.size, 3, none⟩ = some (.slice A n1 cap1) := cell_of_row W1 _ 3 _ _ _ hm1
  have k3 : (w.alloc (.cells #[.string xn, .int .i64 xk, .int .i64 xa, .slice A n1 cap1] 37)).cell? ⟨w.heap.size, 3, none⟩ = some (.slice A n1 cap1) := by rw [← hW1]; exact c3
  have f1 := (hbk.below hb1).cell1
  have HBK := Lib.hid (hbk.below hb1)
  have HC := Lib.hid hc
  have HIN := Lib.hid hin
  have HCM := Lib.hid hcm
  have HFD := Lib.hid hfd
  have HW1 := Lib.hid hW1
  have HB1 := Lib.hid hb1
  have HN1 : Hid (xf.length = n1) := by show _ = _; omega
  have HN : Hid (n = xs.length) := by show _ = _; omega
  have hn1024 : n ≤ 1024 := by omega
  clear hbk hv hvs hlen hin hc hm hn hcm hml hfd hW1 hb1 hm1 c3 hn1
  go_enter Try.func88, Try.ntmps88
  go_wp2_with fail
  rw [← HW1.out]
  clear k3
  go_loop [15] (fun iv => ∃ a : Nat, a ≤ n1 ∧ iv = .int .i64 a ∧ Hid (∀ c' ∈ xf.take a, ∀ s ∈ c', markN xs ms s = false)) (fun iv => n1 - (intOf iv).toNat)
  case atStart => exact ⟨0, Nat.zero_le _, rfl, fun c' h => by simp at h⟩
  case round =>
    obtain ⟨a, ha, rfl, HA⟩ := hrel
    by_cases hlt : a < n1
    · obtain ⟨b, off, u, rfl, ⟨_, hbw⟩, hu', hcell⟩ := HC.out a hlt
      obtain ⟨c, hcc⟩ : ∃ c, xf[a]? = some c := ⟨xf[a]'(by have := HN1.out; omega), List.getElem?_eq_getElem _⟩
      obtain ⟨u', hu'', hrd⟩ := HIN.out a c hcc
      obtain rfl := Option.some.inj (hu'.symm.trans hu'')
      obtain ⟨A2, n2, cap2, rfl, hn2, hcap2, hmax2, hc2⟩ := hrd.lt.open_
      have HC2 := Lib.hid hc2
      have HN2 := Lib.hid hn2
      have HCC := Lib.hid hcc
      have d0 : W1.cell? ⟨b, off + a, none⟩ = some (.slice A2 n2 cap2) := (HB1.out.cell (p := ⟨b, _, none⟩) hbw).trans hcell
      clear hu' hu'' hcc hrd hc2 hn2 hcell
      go_wp2_with fail
      clear d0
      go_loop [21] (fun iv => ∃ d : Nat, d ≤ n2 ∧ iv = .int .i64 d ∧ Hid (∀ s ∈ c.take d, markN xs ms s = false)) (fun iv => n2 - (intOf iv).toNat)
      case atStart => exact ⟨0, Nat.zero_le _, rfl, fun c' h => by simp at h⟩
      case round =>
        obtain ⟨d, hd, rfl, HD⟩ := hrel
        by_cases hlt2 : d < n2
        · obtain ⟨b2, off2, nm, rfl, ⟨_, hbw2⟩, hnm, hcell2⟩ := HC2.out d hlt2
          obtain ⟨hnms, hsome⟩ := HFD.out c (mem_of_get? HCC.out) nm (mem_of_get? hnm)
          obtain ⟨k, hk⟩ := Option.isSome_iff_exists.1 hsome
          have hkn : k < n := by have := idx_lt hk; have := HN.out; omega
          have hlk := MapV.look HBK.out.map hnms
          rw [show idxI xs nm = k from by simp [idxI, hk]] at hlk
          have f0 : W1.cell? ⟨b2, off2 + d, none⟩ = some (.string nm) := (HB1.out.cell (p := ⟨b2, _, none⟩) hbw2).trans hcell2
          obtain ⟨bm, om, mk, rfl, ⟨_, hbm⟩, hmk, hcm⟩ := HCM.out k hkn
          have f2 : W1.cell? ⟨bm, om + k, none⟩ = some (.bool mk) := (HB1.out.cell (p := ⟨bm, _, none⟩) hbm).trans hcm
          have hmn : markN xs ms nm = mk := by unfold markN; rw [hk]; simp only; rw [List.getD_eq_getElem?_getD, hmk]; rfl
          have hk1 : (k : Int) < (n : Int) := by omega
          have hk0 : (0 : Int) ≤ (k : Int) := by omega
          have HMN := Lib.hid hmn
          have HNM := Lib.hid hnm
          have HK := Lib.hid hk
          clear hnm hcell2 hmk hmn hsome hk hcm
          cases mk with
          | true =>
            have HRES := Lib.hid (tIn_hit HCC.out HNM.out HA.out HD.out HMN.out HK.out)
            go_wp2_with fail
            go_ret
            exact ⟨ret_int (by rw [HRES.out]), HB1.out⟩
          | false =>
            have HD2 : Hid (∀ s ∈ c.take (d + 1), markN xs ms s = false) := fun s hs => by
              rw [take_snoc? HNM.out] at hs
              rcases List.mem_append.1 hs with hs | hs
              · exact HD.out s hs
              · simp at hs; subst hs; exact HMN.out
            go_wp2_with fail
            go_round
            case rel => exact ⟨d + 1, by omega, by go_num, HD2⟩
            case measure => simp [intOf]; omega
        · have HA2 : Hid (∀ c' ∈ xf.take (a + 1), ∀ s ∈ c', markN xs ms s = false) := fun c' hc' s hs => by
            rw [take_snoc? HCC.out] at hc'
            rcases List.mem_append.1 hc' with hc' | hc'
            · exact HA.out c' hc' s hs
            · simp at hc'; subst hc'; exact HD.out s (by rw [List.take_of_length_le (by have := HN2.out; omega)]; exact hs)
          go_wp2_with fail
          go_round
          case rel => exact ⟨a + 1, by omega, by go_num, HA2⟩
          case measure => simp [intOf]; omega
    · have HRES : Hid (tIn xs ms xf = 0) := tIn_none fun c' hc' => HA.out c' (by rw [List.take_of_length_le (by have := HN1.out; omega)]; exact hc')
      go_wp2_with fail
      go_ret
      exact ⟨ret_int (by rw [HRES.out]; rfl), HB1.out⟩
end Go.Proofs.Ytlanephpmoajiaa

namespace Go.Proofs.Ytlanephpmoajiaa
open Go.RowKit
set_option linter.unusedVariables false
set_option linter.unusedSimpArgs false
def directB (f : FaultD) (x : ItemD) : Bool := during f x.at_ && chosenB x f.item
theorem find_some_mem {α : Type} {p : α → Bool} {l : List α} {a : α} (h : l.find? p = some a) : p a = true ∧ a ∈ l := ⟨List.find?_some h, List.mem_of_find?_eq_some h⟩
/-- From a marked item that does not use the fault's item at once, the first marked choice is a marked input that stands before. -/
theorem trail_next {xs : List ItemD} (h : BookUq xs) {f : FaultD} (he : faultErr xs f = 0) {k : Nat} {x : ItemD} (hx : xs[k]? = some x) (hm : (touchedMs xs f).getD k false = true) (hd : directB f x = false) :
    Edge xs k (tIn xs (touchedMs xs f) x.frm) ∧ tIn xs (touchedMs xs f) x.frm < k ∧ (touchedMs xs f).getD (tIn xs (touchedMs xs f) x.frm) false = true := by
  obtain ⟨i, hi, -⟩ := fault_some he
  have hms : touchedMs xs f = spAll xs i (fun x => during f x.at_) := by unfold touchedMs; simp only [hi]
  have hm' := hm
  rw [hms, spAll_iff h hx] at hm'
  obtain ⟨j, hE, hj⟩ := hm'
  have hch : ∃ nm ∈ x.frm.flatten, markN xs (touchedMs xs f) nm = true := by
    rcases hj with hj | ⟨rfl, hq⟩
    · obtain ⟨x', hx', c, hc, nm, hnm, hidx⟩ := hE
      rw [hx] at hx'
      obtain rfl := Option.some.inj hx'
      refine ⟨nm, List.mem_flatten.2 ⟨c, hc, hnm⟩, ?_⟩
      unfold markN
      rw [hidx]
      simp only
      rw [hms]; exact hj
    · exfalso
      have := (edge_chosen h hx hi).2 hE
      unfold directB at hd
      rw [this, Bool.and_true] at hd
      have hq2 : during f x.at_ = true := hq
      rw [hd] at hq2
      cases hq2
  unfold tIn
  cases hf : x.frm.flatten.find? (markN xs (touchedMs xs f)) with
  | none =>
    obtain ⟨nm, h1, h2⟩ := hch
    have := List.find?_eq_none.1 hf nm h1
    exact absurd h2 this
  | some nm =>
    simp only
    obtain ⟨h1, h2⟩ := find_some_mem hf
    obtain ⟨c, hc, hnm⟩ := List.mem_flatten.1 h2
    obtain ⟨j', hj', hlt⟩ := h.ord k x hx c hc nm hnm
    unfold markN at h1
    rw [hj'] at h1 ⊢
    exact ⟨⟨x, hx, c, hc, nm, hnm, hj'⟩, hlt, h1⟩
def nameAt (xs : List ItemD) (i : Nat) : ByteArray := (xs[i]?.map (·.name)).getD ⟨#[]⟩
/-- Back from place i: what is appended, while there is fuel. -/
def trailGo (xs : List ItemD) (f : FaultD) : Nat → Nat → List ByteArray
  | 0, _ => []
  | d + 1, i => match xs[i]? with
    | none => []
    | some x => if directB f x = true then [f.item] else nameAt xs (tIn xs (touchedMs xs f) x.frm) :: trailGo xs f d (tIn xs (touchedMs xs f) x.frm)
theorem trailGo_fuel {xs : List ItemD} (h : BookUq xs) {f : FaultD} (he : faultErr xs f = 0) : ∀ d e i, i < d → i < e → (touchedMs xs f).getD i false = true → trailGo xs f d i = trailGo xs f e i
  | 0, _, _, h1, _, _ => absurd h1 (by omega)
  | _, 0, _, _, h2, _ => absurd h2 (by omega)
  | d + 1, e + 1, i, h1, h2, hm => by
    simp only [trailGo]
    cases hx : xs[i]? with
    | none => rfl
    | some x =>
      simp only
      by_cases hd : directB f x = true
      · rw [if_pos hd, if_pos hd]
      · rw [if_neg hd, if_neg hd]
        obtain ⟨_, hl, hm2⟩ := trail_next h he hx hm (by simpa using hd)
        rw [trailGo_fuel h he d e _ (by omega) (by omega) hm2]
/-- The whole way, from the fault's item to the item at place i. -/
def trailOf (xs : List ItemD) (f : FaultD) (i : Nat) : List ByteArray := (nameAt xs i :: trailGo xs f (i + 1) i).reverse
/-- Is name k of a way right? -/
def leadsAt (xs : List ItemD) (f : FaultD) (way : List ByteArray) (k : Nat) : Bool :=
  match idx xs (way.getD k ⟨#[]⟩) with
  | none => false
  | some n => match xs[n]? with
    | none => false
    | some x => chosenB x (way.getD (k - 1) ⟨#[]⟩) && (decide (k ≠ 1) || during f x.at_)
def leadsB (xs : List ItemD) (f : FaultD) (way : List ByteArray) : Bool :=
  decide (faultErr xs f = 0) && decide (2 ≤ way.length) && decide (way.getD 0 ⟨#[]⟩ = f.item) && (List.range (way.length - 1)).all (fun k => leadsAt xs f way (k + 1))
/-- A chain back to the fault's item: each name uses the next one. -/
inductive Back (xs : List ItemD) (f : FaultD) : ByteArray → List ByteArray → Prop
  | last {i : Nat} {x : ItemD} (hx : xs[i]? = some x) (hi : idx xs x.name = some i) (hd : directB f x = true) : Back xs f x.name [f.item]
  | step {i : Nat} {x : ItemD} {b : ByteArray} {l : List ByteArray} (hx : xs[i]? = some x) (hi : idx xs x.name = some i) (hc : chosenB x b = true) (h : Back xs f b l) : Back xs f x.name (b :: l)
theorem trail_back {xs : List ItemD} (h : BookUq xs) {f : FaultD} (he : faultErr xs f = 0) : ∀ d i, i < d → (touchedMs xs f).getD i false = true → i < xs.length → Back xs f (nameAt xs i) (trailGo xs f d i)
  | 0, _, h1, _, _ => absurd h1 (by omega)
  | d + 1, i, h1, hm, hl => by
    have hx : xs[i]? = some xs[i] := List.getElem?_eq_getElem hl
    have hn : nameAt xs i = (xs[i]).name := by unfold nameAt; rw [hx]; rfl
    have hi := h.uniq i _ hx
    simp only [trailGo, hx]
    rw [hn]
    by_cases hd : directB f xs[i] = true
    · rw [if_pos hd]; exact .last hx hi hd
    · rw [if_neg hd]
      obtain ⟨hE, hlt, hm2⟩ := trail_next h he hx hm (by simpa using hd)
      have hl2 : tIn xs (touchedMs xs f) (xs[i]).frm < xs.length := by omega
      have hy : xs[tIn xs (touchedMs xs f) (xs[i]).frm]? = some xs[tIn xs (touchedMs xs f) (xs[i]).frm] := List.getElem?_eq_getElem hl2
      refine .step hx hi ?_ (trail_back h he d _ (by omega) hm2 hl2)
      have hny : nameAt xs (tIn xs (touchedMs xs f) (xs[i]).frm) = (xs[tIn xs (touchedMs xs f) (xs[i]).frm]).name := by unfold nameAt; rw [hy]; rfl
      rw [hny, edge_chosen h hx (h.uniq _ _ hy)]
      exact hE
theorem Back.pairs {xs : List ItemD} {f : FaultD} {a : ByteArray} {l : List ByteArray} (h : Back xs f a l) :
    l ≠ [] ∧ (a :: l).getD l.length ⟨#[]⟩ = f.item ∧ ∀ m, m < l.length → ∃ n x, idx xs ((a :: l).getD m ⟨#[]⟩) = some n ∧ xs[n]? = some x ∧ chosenB x ((a :: l).getD (m + 1) ⟨#[]⟩) = true ∧ (m + 1 = l.length → during f x.at_ = true) := by
  induction h with
  | last hx hi hd =>
    unfold directB at hd
    rw [Bool.and_eq_true] at hd
    refine ⟨by simp, rfl, fun m hm => ?_⟩
    have : m = 0 := by simp at hm; omega
    subst this
    exact ⟨_, _, hi, hx, hd.2, fun _ => hd.1⟩
  | @step i x b l hx hi hc _ ih =>
    obtain ⟨h1, h2, h3⟩ := ih
    refine ⟨by simp, ?_, fun m hm => ?_⟩
    · have : (x.name :: b :: l).getD (b :: l).length ⟨#[]⟩ = (b :: l).getD l.length ⟨#[]⟩ := rfl
      rw [this, h2]
    · cases m with
      | zero =>
        refine ⟨_, _, hi, hx, hc, fun he => ?_⟩
        have : l.length = 0 := by have e9 : (b :: l).length = l.length + 1 := rfl; omega
        exact absurd (List.length_eq_zero_iff.1 this) h1
      | succ m =>
        have hm' : m < l.length := by simp at hm; omega
        obtain ⟨n, x', h4, h5, h6, h7⟩ := h3 m hm'
        exact ⟨n, x', h4, h5, h6, fun he => h7 (by have e9 : (b :: l).length = l.length + 1 := rfl; omega)⟩
theorem getD_rev (L : List ByteArray) (k : Nat) (hk : k < L.length) : L.reverse.getD k ⟨#[]⟩ = L.getD (L.length - 1 - k) ⟨#[]⟩ := by
  rw [List.getD_eq_getElem?_getD, List.getD_eq_getElem?_getD, List.getElem?_reverse hk]
/-- The way back, turned round, is accepted. -/
theorem Back.leads {xs : List ItemD} {f : FaultD} (he : faultErr xs f = 0) {a : ByteArray} {l : List ByteArray} (h : Back xs f a l) : leadsB xs f (a :: l).reverse = true := by
  obtain ⟨h1, h2, h3⟩ := h.pairs
  have hl : 1 ≤ l.length := List.length_pos_iff.2 h1
  unfold leadsB
  simp only [Bool.and_eq_true, decide_eq_true_eq]
  refine ⟨⟨⟨he, by simp; omega⟩, ?_⟩, ?_⟩
  · rw [getD_rev _ 0 (by simp)]
    exact h2
  · rw [List.all_eq_true]
    intro k hk
    have hk := List.mem_range.1 hk
    have hk' : k < l.length := by simpa using hk
    obtain ⟨n, x, h4, h5, h6, h7⟩ := h3 (l.length - 1 - k) (by omega)
    have e1 : (a :: l).reverse.getD (k + 1) ⟨#[]⟩ = (a :: l).getD (l.length - 1 - k) ⟨#[]⟩ := by
      rw [getD_rev _ (k + 1) (by simp; omega)]; congr 1; simp; omega
    have e2 : (a :: l).reverse.getD (k + 1 - 1) ⟨#[]⟩ = (a :: l).getD (l.length - 1 - k + 1) ⟨#[]⟩ := by
      rw [getD_rev _ (k + 1 - 1) (by simp; omega)]; congr 1; simp; omega
    unfold leadsAt
    rw [e1, h4]
    simp only [h5]
    rw [e2, h6, Bool.true_and, Bool.or_eq_true, decide_eq_true_eq]
    by_cases hk0 : k = 0
    · exact .inr (h7 (by omega))
    · exact .inl (by omega)
theorem trail_leads {xs : List ItemD} (h : BookUq xs) {f : FaultD} (he : faultErr xs f = 0) {i : Nat} (hm : (touchedMs xs f).getD i false = true) (hl : i < xs.length) : leadsB xs f (trailOf xs f i) = true :=
  (trail_back h he (i + 1) i (by omega) hm hl).leads he
theorem trail_last (xs : List ItemD) (f : FaultD) (i : Nat) : (trailOf xs f i).getD ((trailOf xs f i).length - 1) ⟨#[]⟩ = nameAt xs i := by
  unfold trailOf
  rw [getD_rev _ _ (by simp)]
  simp
end Go.Proofs.Ytlanephpmoajiaa

namespace Go.Proofs.Ytlanephpmoajiaa
open Go.RowKit
set_option linter.unusedVariables false
set_option linter.unusedSimpArgs false
def trailErr (xs : List ItemD) (f : FaultD) (nm : ByteArray) : Int := if faultErr xs f = 0 then (match idx xs nm with | none => 5 | some i => if (touchedMs xs f).getD i false = true then 0 else 5) else faultErr xs f
def trailL (xs : List ItemD) (f : FaultD) (nm : ByteArray) : List ByteArray := if trailErr xs f nm = 0 then (match idx xs nm with | none => [] | some i => trailOf xs f i) else []
/-- What Trail leaves. -/
def TrailPost (w : World) (xs : List ItemD) (f : FaultD) (nm : ByteArray) (e : Ending) (w' : World) : Prop :=
  ∃ v, e = .returned (.tuple #[v, .int .i64 (trailErr xs f nm)]) ∧ Rd .string w' (w.heap.size ≤ ·) v (trailL xs f nm) ∧ Below w.heap.size w w'
set_option maxRecDepth 100000 in
set_option maxHeartbeats 2000000 in
theorem trail_any (p : Value) (B : Nat) (F : Nat → Prop) (xs : List ItemD) (f : FaultD) (nm : ByteArray) (w : World) (hb : Bk w B p F xs) (hfd : Found xs) (hu : BookUq xs) (hxl : xs.length ≤ 24) (hfs : f.item.size ≤ maxLen) (hnm : nm.size ≤ maxLen) :
    Calls Try.prog 51 #[p, .agg #[.string f.item, .int .i64 f.since, .int .i64 f.until_], .string nm] w (TrailPost w xs f nm) := by
  obtain ⟨j0, hj0, hy0, hy1, hy2⟩ := info_parts info9
  have HFA := Lib.hid (fun w' (h : Below w.heap.size w w') => fault_any p B F xs f w' (hb.below h) hfs)
  have HB := Lib.hid hb
  have HU := Lib.hid hu
  have HFD := Lib.hid hfd
  obtain ⟨bb, vi, r, fs, rfl, hbk⟩ := hb
  have HBK := Lib.hid hbk
  obtain ⟨fe, hfe⟩ : ∃ fe, fe = faultErr xs f := ⟨_, rfl⟩
  obtain ⟨fi, hfi⟩ : ∃ fi, fi = faultI xs f := ⟨_, rfl⟩
  rw [← hfe, ← hfi] at HFA
  have HFE := Lib.hid hfe
  have HFI := Lib.hid hfi
  obtain ⟨W1, hW1⟩ : ∃ W1, W1 = w.alloc (.cells #[.string f.item, .int .i64 f.since, .int .i64 f.until_] 55) := ⟨_, rfl⟩
  have hm1 := heap_alloc_new w (.cells #[.string f.item, .int .i64 f.since, .int .i64 f.until_] 55)
  have hb1 : Below w.heap.size w W1 := by rw [hW1]; exact (Below.refl _ w).alloc (Nat.le_refl _) _
  rw [← hW1] at hm1
  have HW1 := Lib.hid hW1
  have HB1 := Lib.hid hb1
  have HM1 := Lib.hid hm1
  obtain ⟨it, si, un⟩ := f
  simp only at *
  have c0 : W1.cell? ⟨w.heap.size, 0, none⟩ = some (.string it) := cell_of_row W1 _ 0 _ _ _ hm1
  have c1 : W1.cell? ⟨w.heap.size, 1, none⟩ = some (.int .i64 si) := cell_of_row W1 _ 1 _ _ _ hm1
  have c2 : W1.cell? ⟨w.heap.size, 2, none⟩ = some (.int .i64 un) := cell_of_row W1 _ 2 _ _ _ hm1
  have hxl2 : xs.length ≤ 1024 := by omega
  clear hfe hfi hbk hfd hu hW1 hm1 hb1
  go_enter Try.func51, Try.ntmps51
  go_wp2_with fail
  rw [← HW1.out]
  refine (HFA.out W1 HB1.out).mono ?_
  rintro e w2 ⟨rfl, hb2⟩
  have HB2 := Lib.hid (HB1.out.trans (hb2.mono HB1.out.size))
  have HM2 := Lib.hid ((hb2.block _ (Array.getElem?_eq_some_iff.1 HM1.out).1).trans HM1.out)
  clear hb2 c0 c1 c2
  rcases int_cases fe with ⟨hz, h0⟩ | ⟨hz, h0⟩
  · obtain ⟨i, hi, hfi, hil, -⟩ := fault_some (HFE.out.symm.trans h0)
    have HF0 : Hid (faultErr xs ⟨it, si, un⟩ = 0) := HFE.out.symm.trans h0
    have HSP := Lib.hid (fun w' (h : Below w.heap.size w w') => spread_any (.pointer (some ⟨bb, 0, none⟩)) B F xs i hil hxl2 85 #[.agg #[.string it, .int .i64 si, .int .i64 un]] #[] enters85 (fun x => during ⟨it, si, un⟩ x.at_) w' (HB.out.below h) HFD.out (fun x _ vf w'' _ => during_any ⟨it, si, un⟩ x.name x.kind x.at_ vf w''))
    have hfi' : fi = i := HFI.out.trans hfi
    have HMS : Hid (touchedMs xs ⟨it, si, un⟩ = spAll xs i (fun x => during ⟨it, si, un⟩ x.at_)) := by unfold touchedMs Hid; simp only [hi]
    rw [← HMS.out] at HSP
    have y0 : w2.cell? ⟨w.heap.size, 0, none⟩ = some (.string it) := cell_of_row w2 _ 0 _ _ _ HM2.out
    have y1 : w2.cell? ⟨w.heap.size, 1, none⟩ = some (.int .i64 si) := cell_of_row w2 _ 1 _ _ _ HM2.out
    have y2 : w2.cell? ⟨w.heap.size, 2, none⟩ = some (.int .i64 un) := cell_of_row w2 _ 2 _ _ _ HM2.out
    subst hfi'
    clear hi hfi hil
    go_wp2_with fail
    refine (HSP.out w2 HB2.out).mono ?_
    rintro e w3 ⟨⟨v3, rfl, ho3⟩, hb3⟩
    obtain ⟨A3, c3, rfl⟩ := ownsRow_slice ho3
    have HB3 := Lib.hid (HB2.out.trans (hb3.mono HB2.out.size))
    have HM3 := Lib.hid ((hb3.block _ (Array.getElem?_eq_some_iff.1 HM2.out).1).trans HM2.out)
    have HR3 := Lib.hid (Rd.of_own ho3)
    have ho3l : Hid ((touchedMs xs ⟨it, si, un⟩).length = xs.length) := by have := ho3.1; show _ = _; simpa using this
    have hbk3 := HBK.out.below HB3.out
    have hlk := MapV.look_ok hbk3.map hnm
    have f1 := hbk3.cell1
    clear y0 y1 y2 hb3 ho3 hbk3
    cases hi : idx xs nm with
    | none =>
      have HT : Hid (trailErr xs ⟨it, si, un⟩ nm = 5) := by unfold trailErr Hid; rw [if_pos HF0.out, hi]
      rw [hi] at hlk
      simp only [Option.isSome_none] at hlk
      clear hi
      go_wp2_with fail
      go_ret2
      refine ⟨_, by rw [HT.out]; rfl, ?_, HB3.out⟩
      unfold trailL
      rw [HT.out, if_neg (by decide)]
      exact Rd.none_ _ _ _
    | some i0 =>
      have hil := idx_lt hi
      obtain ⟨A7, n7, cap7, hA7, hn7, hcap7, hmax7, hc7⟩ := HR3.out.lt.open_
      simp only [Value.slice.injEq] at hA7
      obtain ⟨rfl, rfl, rfl⟩ := hA7
      have HC7 := Lib.hid hc7
      obtain ⟨b7, off7, mk, hA7, ⟨_, hb7⟩, hmk, hcell7⟩ := hc7 i0 hil
      subst hA7
      have hmk' : (touchedMs xs ⟨it, si, un⟩).getD i0 false = mk := by rw [List.getD_eq_getElem?_getD, hmk]; rfl
      rw [hi] at hlk
      simp only [Option.isSome_some] at hlk
      rw [show idxI xs nm = (i0 : Int) by simp [idxI, hi]] at hlk
      have hi1 : (0 : Int) ≤ (i0 : Int) := by omega
      have hi2 : (i0 : Int) < (xs.length : Int) := by omega
      cases mk with
      | false =>
        have HT : Hid (trailErr xs ⟨it, si, un⟩ nm = 5) := by unfold trailErr Hid; rw [if_pos HF0.out, hi]; simp only; rw [if_neg (by rw [hmk']; simp)]
        clear hi hc7 hmk hmk'
        go_wp2_with fail
        go_ret2
        refine ⟨_, by rw [HT.out]; rfl, ?_, HB3.out⟩
        unfold trailL
        rw [HT.out, if_neg (by decide)]
        exact Rd.none_ _ _ _
      | true =>
        have HT : Hid (trailErr xs ⟨it, si, un⟩ nm = 0) := by unfold trailErr Hid; rw [if_pos HF0.out, hi]; simp only; rw [if_pos hmk']
        have HTL : Hid (trailL xs ⟨it, si, un⟩ nm = trailOf xs ⟨it, si, un⟩ i0) := by unfold trailL Hid; rw [HT.out, if_pos rfl, hi]
        have HMK := Lib.hid hmk'
        have HNA : Hid (nameAt xs i0 = nm) := by obtain ⟨x, hx, hxn⟩ := idx_get hi; unfold nameAt Hid; rw [hx]; exact hxn
        have HO0 : Hid ((w3.alloc (.cells #[.string nm] 9)).ownsRow w3.heap.size 9 1 (.slice (some ⟨w3.heap.size, 0, none⟩) 1 1) [nm].length ([nm].map Value.string)) := ⟨rfl, .inr ⟨w3.heap.size, 1, #[.string nm], rfl, Nat.le_refl _, heap_alloc_new w3 _, Nat.le_refl _, by simp [maxLen], rfl, rfl⟩⟩
        have HBA : Hid (Below w3.heap.size w3 (w3.alloc (.cells #[.string nm] 9))) := (Below.refl _ w3).alloc (Nat.le_refl _) _
        clear hi hc7 hmk hmk'
        go_wp2_with fail
        clear hlk f1 hcell7
        go_loopw [11, 13] (fun av wv wr => ∃ (i : Nat) (L : List ByteArray), av = .int .i64 i ∧ i < xs.length ∧ (touchedMs xs ⟨it, si, un⟩).getD i false = true ∧ L.length + i ≤ xs.length ∧ L ++ trailGo xs ⟨it, si, un⟩ (i + 1) i = nm :: trailGo xs ⟨it, si, un⟩ (i0 + 1) i0 ∧ wr.ownsRow w3.heap.size 9 1 wv L.length (L.map Value.string) ∧ Below w3.heap.size w3 wr) (fun av _ _ => (intOf av).toNat)
        case atStart => exact ⟨i0, [nm], rfl, hil, HMK.out, by simp; omega, rfl, HO0.out, HBA.out⟩
        case round =>
          clear HO0 HBA
          obtain ⟨i, L, rfl, hin, hmi, hLi, htot, hrow, hbel⟩ := hrel
          obtain ⟨x, hx⟩ : ∃ x, xs[i]? = some x := ⟨xs[i], List.getElem?_eq_getElem hin⟩
          have hbR : Below w.heap.size w wr := HB3.out.trans (hbel.mono HB3.out.size)
          have hbkr := HBK.out.below hbR
          have e0 := hbkr.cell0
          obtain ⟨g', cp, fv, rfl, hgc, hg1, hg2, i0', i1', i2', i3', hfr⟩ := hbkr.item hx
          obtain ⟨Af, nf, cf, rfl⟩ := hfr.isSlice
          have hss := HFD.out x (mem_of_get? hx)
          obtain ⟨xn, xk, xa, xf⟩ := x
          simp only at i0' i1' i2' i3' hfr
          obtain ⟨wa, hwa⟩ : ∃ wa, wa = wr.alloc (.cells #[.string xn, .int .i64 xk, .int .i64 xa, .slice Af nf cf] 37) := ⟨_, rfl⟩
          have hma := heap_alloc_new wr (.cells #[.string xn, .int .i64 xk, .int .i64 xa, .slice Af nf cf] 37)
          have hba : Below wr.heap.size wr wa := by rw [hwa]; exact (Below.refl _ _).alloc (Nat.le_refl _) _
          rw [← hwa] at hma
          have hmf : wa.heap[w.heap.size]? = _ := ((hbel.trans (hba.mono hbel.size)).block _ (Array.getElem?_eq_some_iff.1 HM3.out).1).trans HM3.out
          have HWA := Lib.hid hwa
          have HMA := Lib.hid hma
          have HMF := Lib.hid hmf
          have HBA := Lib.hid hba
          have a0 : wa.cell? ⟨wr.heap.size, 0, none⟩ = some (.string xn) := cell_of_row wa _ 0 _ _ _ hma
          have a1 : wa.cell? ⟨wr.heap.size, 1, none⟩ = some (.int .i64 xk) := cell_of_row wa _ 1 _ _ _ hma
          have a2 : wa.cell? ⟨wr.heap.size, 2, none⟩ = some (.int .i64 xa) := cell_of_row wa _ 2 _ _ _ hma
          have a3 : wa.cell? ⟨wr.heap.size, 3, none⟩ = some (.slice Af nf cf) := cell_of_row wa _ 3 _ _ _ hma
          have b0 : wa.cell? ⟨w.heap.size, 0, none⟩ = some (.string it) := cell_of_row wa _ 0 _ _ _ hmf
          have b1 : wa.cell? ⟨w.heap.size, 1, none⟩ = some (.int .i64 si) := cell_of_row wa _ 1 _ _ _ hmf
          have b2 : wa.cell? ⟨w.heap.size, 2, none⟩ = some (.int .i64 un) := cell_of_row wa _ 2 _ _ _ hmf
          rw [hwa] at a0 a1 a2 a3 b0 b1 b2
          have HDU := Lib.hid (during_any ⟨it, si, un⟩ xn xk xa (.slice Af nf cf) wa)
          have HRF := Lib.hid (hfr.below hba)
          have HX := Lib.hid hx
          have HROW := Lib.hid hrow
          have HBEL := Lib.hid hbel
          have HMI := Lib.hid hmi
          have HTOT := Lib.hid htot
          have HSS := Lib.hid hss
          have HBR := Lib.hid hbR
          have hin1 : (0 : Int) ≤ (i : Int) := by omega
          have hin2 : (i : Int) < (xs.length : Int) := by omega
          obtain ⟨A9, c9, rfl⟩ := ownsRow_slice hrow
          clear hma hba hmf hwa hx hrow hbel hmi htot hss hbR hfr hbkr
          go_wp2_with fail
          rw [← HWA.out]
          refine HDU.out.mono ?_
          rintro e w5 ⟨rfl, hb5⟩
          clear a0 a1 a2 a3 b0 b1 b2
          have HMA5 := Lib.hid ((hb5.block _ (Array.getElem?_eq_some_iff.1 HMA.out).1).trans HMA.out)
          have HMF5 := Lib.hid ((hb5.block _ (Array.getElem?_eq_some_iff.1 HMF.out).1).trans HMF.out)
          have HB5 := Lib.hid (HBA.out.trans (hb5.mono HBA.out.size))
          have HRF5 := Lib.hid (HRF.out.below hb5)
          have a0 : w5.cell? ⟨wr.heap.size, 0, none⟩ = some (.string xn) := cell_of_row w5 _ 0 _ _ _ HMA5.out
          have a1 : w5.cell? ⟨wr.heap.size, 1, none⟩ = some (.int .i64 xk) := cell_of_row w5 _ 1 _ _ _ HMA5.out
          have a2 : w5.cell? ⟨wr.heap.size, 2, none⟩ = some (.int .i64 xa) := cell_of_row w5 _ 2 _ _ _ HMA5.out
          have a3 : w5.cell? ⟨wr.heap.size, 3, none⟩ = some (.slice Af nf cf) := cell_of_row w5 _ 3 _ _ _ HMA5.out
          have b0 : w5.cell? ⟨w.heap.size, 0, none⟩ = some (.string it) := cell_of_row w5 _ 0 _ _ _ HMF5.out
          have HUS := Lib.hid (pUses_any ⟨xn, xk, xa, xf⟩ (.slice Af nf cf) it _ w5 HRF5.out)
          simp only at HUS
          obtain ⟨du, hdu⟩ : ∃ du, du = during ⟨it, si, un⟩ xa := ⟨_, rfl⟩
          obtain ⟨ch, hch⟩ : ∃ ch, ch = chosenB ⟨xn, xk, xa, xf⟩ it := ⟨_, rfl⟩
          rw [← hdu]
          rw [← hch] at HUS
          have HDIR : Hid (directB ⟨it, si, un⟩ ⟨xn, xk, xa, xf⟩ = (du && ch)) := by unfold directB Hid; rw [hdu, hch]
          clear hdu hch hb5
          cases du with
          | false =>
            have HDF : Hid (directB ⟨it, si, un⟩ ⟨xn, xk, xa, xf⟩ = false) := by rw [HDIR.out]; rfl
            obtain ⟨w6, hw6⟩ : ∃ w6, w6 = w5 := ⟨_, rfl⟩
            have hb6 : Below w5.heap.size w5 w6 := by rw [hw6]; exact Below.refl _ _
            subst hw6
            have HB6 := Lib.hid (HB5.out.trans (hb6.mono HB5.out.size))
            have HMA6 := Lib.hid ((hb6.block _ (Array.getElem?_eq_some_iff.1 HMA5.out).1).trans HMA5.out)
            have HRF6 := Lib.hid (HRF5.out.below hb6)
            have z0 : w6.cell? ⟨wr.heap.size, 0, none⟩ = some (.string xn) := cell_of_row w6 _ 0 _ _ _ HMA6.out
            have z1 : w6.cell? ⟨wr.heap.size, 1, none⟩ = some (.int .i64 xk) := cell_of_row w6 _ 1 _ _ _ HMA6.out
            have z2 : w6.cell? ⟨wr.heap.size, 2, none⟩ = some (.int .i64 xa) := cell_of_row w6 _ 2 _ _ _ HMA6.out
            have z3 : w6.cell? ⟨wr.heap.size, 3, none⟩ = some (.slice Af nf cf) := cell_of_row w6 _ 3 _ _ _ HMA6.out
            have H36 : Hid (Below w3.heap.size w3 w6) := HBEL.out.trans (HB6.out.mono HBEL.out.size)
            have H06 : Hid (Below w.heap.size w w6) := HB3.out.trans (H36.out.mono HB3.out.size)
            have HTI := Lib.hid (tin_any (.pointer (some ⟨bb, 0, none⟩)) B F xs ⟨xn, xk, xa, xf⟩ (.slice Af nf cf) _ _ _ _ w6 (HB.out.below H06.out) hxl2 HRF6.out (HR3.out.below H36.out) (by have := ho3l.out; exact this) HSS.out)
            simp only at HTI
            obtain ⟨hE, hlt, hm2⟩ := trail_next HU.out HF0.out HX.out HMI.out HDF.out
            have htg : trailGo xs ⟨it, si, un⟩ (i + 1) i = nameAt xs (tIn xs (touchedMs xs ⟨it, si, un⟩) xf) :: trailGo xs ⟨it, si, un⟩ (tIn xs (touchedMs xs ⟨it, si, un⟩) xf + 1) (tIn xs (touchedMs xs ⟨it, si, un⟩) xf) := by
              simp only [trailGo, HX.out]
              rw [if_neg (by rw [HDF.out]; simp)]
              congr 1
              rw [trailGo_fuel HU.out HF0.out i _ _ hlt (Nat.lt_succ_self _) hm2]
              simp only [trailGo]
            simp only at hlt hm2
            obtain ⟨i', hi'⟩ : ∃ i', i' = tIn xs (touchedMs xs ⟨it, si, un⟩) xf := ⟨_, rfl⟩
            rw [← hi'] at HTI hlt hm2 htg
            obtain ⟨y, hy⟩ : ∃ y, xs[i']? = some y := ⟨xs[i']'(by omega), List.getElem?_eq_getElem _⟩
            have hny : nameAt xs i' = y.name := by unfold nameAt; rw [hy]; rfl
            rw [hny] at htg
            have HTG := Lib.hid htg
            have HM2' := Lib.hid hm2
            have hi1' : (0 : Int) ≤ (i' : Int) := by omega
            have hi2' : (i' : Int) < (xs.length : Int) := by omega
            clear hi' htg hm2 hny hE
            go_wp2_with fail
            refine HTI.out.mono ?_
            rintro e w7 ⟨rfl, hb7⟩
            have HB7 := Lib.hid (HB6.out.trans (hb7.mono HB6.out.size))
            have H37 : Hid (Below w3.heap.size w3 w7) := HBEL.out.trans (HB7.out.mono HBEL.out.size)
            have hbk7 := HBK.out.below (HB3.out.trans (H37.out.mono HB3.out.size))
            have e7 := hbk7.cell0
            obtain ⟨g9, cp9, fv9, he9, hgc9, hg19, hg29, j0', j1', j2', j3', -⟩ := hbk7.item hy
            simp only [Value.slice.injEq, Option.some.injEq, Addr.mk.injEq, and_true, true_and] at he9
            obtain ⟨rfl, rfl⟩ := he9
            have hrow7 := HROW.out.kept (row := none) ⟨HB7.out.os, HB7.out.tape, HB7.out.output, HB7.out.size, fun k hk _ => HB7.out.block k hk⟩ (Classical.em _)
            have HR7 := Lib.hid (hrow7.alloc (.cells #[.string y.name] 9))
            have hs7 := H37.out.size
            obtain ⟨yn, hyn⟩ : ∃ yn, yn = y.name := ⟨_, rfl⟩
            rw [← hyn] at j0' HR7 HTG
            clear hrow7 hbk7 j1' j2' j3' hb7 hyn z0 z1 z2 z3
            go_wp2_with (at_builtin; refine wpList_append_own _ rfl _ _ 52 rfl w3.heap.size 9 j0 (.string ⟨#[]⟩) 1 16 Try.underlying52 hj0 hy0 hy1 hy2 rfl (by decide) _ L.length (L.map Value.string) rfl HR7.out ⟨w7.heap.size, 0, none⟩ 1 1 [.string yn] rfl rfl (cell_one_new _ _ _) (fun u hu => by simp at hu; subst hu; rfl) (by unfold maxLen; omega) (by omega) (by simp; omega) ?_; intro v' w8 hown' hgrow _)
            have hg := grown_below (HROW.out.kept (row := none) ⟨HB7.out.os, HB7.out.tape, HB7.out.output, HB7.out.size, fun k hk _ => HB7.out.block k hk⟩ (Classical.em _)) hgrow hs7
            go_roundw
            case rel => exact ⟨i', L ++ [yn], rfl, by omega, HM2'.out, by simp; omega, by rw [List.append_assoc]; have h9 := HTOT.out; rw [HTG.out] at h9; exact h9, by rw [List.map_append, List.length_append]; exact hown', H37.out.trans hg.1⟩
            case measure => simp [intOf]; omega
          | true =>
            go_wp2_with fail
            refine HUS.out.mono ?_
            rintro e w6 ⟨rfl, hb6⟩
            clear a0 a1 a2 a3
            cases ch with
            | false =>
              have HDF : Hid (directB ⟨it, si, un⟩ ⟨xn, xk, xa, xf⟩ = false) := by rw [HDIR.out]; rfl
              have HB6 := Lib.hid (HB5.out.trans (hb6.mono HB5.out.size))
              have HMA6 := Lib.hid ((hb6.block _ (Array.getElem?_eq_some_iff.1 HMA5.out).1).trans HMA5.out)
              have HRF6 := Lib.hid (HRF5.out.below hb6)
              have z0 : w6.cell? ⟨wr.heap.size, 0, none⟩ = some (.string xn) := cell_of_row w6 _ 0 _ _ _ HMA6.out
              have z1 : w6.cell? ⟨wr.heap.size, 1, none⟩ = some (.int .i64 xk) := cell_of_row w6 _ 1 _ _ _ HMA6.out
              have z2 : w6.cell? ⟨wr.heap.size, 2, none⟩ = some (.int .i64 xa) := cell_of_row w6 _ 2 _ _ _ HMA6.out
              have z3 : w6.cell? ⟨wr.heap.size, 3, none⟩ = some (.slice Af nf cf) := cell_of_row w6 _ 3 _ _ _ HMA6.out
              have H36 : Hid (Below w3.heap.size w3 w6) := HBEL.out.trans (HB6.out.mono HBEL.out.size)
              have H06 : Hid (Below w.heap.size w w6) := HB3.out.trans (H36.out.mono HB3.out.size)
              have HTI := Lib.hid (tin_any (.pointer (some ⟨bb, 0, none⟩)) B F xs ⟨xn, xk, xa, xf⟩ (.slice Af nf cf) _ _ _ _ w6 (HB.out.below H06.out) hxl2 HRF6.out (HR3.out.below H36.out) (by have := ho3l.out; exact this) HSS.out)
              simp only at HTI
              obtain ⟨hE, hlt, hm2⟩ := trail_next HU.out HF0.out HX.out HMI.out HDF.out
              have htg : trailGo xs ⟨it, si, un⟩ (i + 1) i = nameAt xs (tIn xs (touchedMs xs ⟨it, si, un⟩) xf) :: trailGo xs ⟨it, si, un⟩ (tIn xs (touchedMs xs ⟨it, si, un⟩) xf + 1) (tIn xs (touchedMs xs ⟨it, si, un⟩) xf) := by
                simp only [trailGo, HX.out]
                rw [if_neg (by rw [HDF.out]; simp)]
                congr 1
                rw [trailGo_fuel HU.out HF0.out i _ _ hlt (Nat.lt_succ_self _) hm2]
                simp only [trailGo]
              simp only at hlt hm2
              obtain ⟨i', hi'⟩ : ∃ i', i' = tIn xs (touchedMs xs ⟨it, si, un⟩) xf := ⟨_, rfl⟩
              rw [← hi'] at HTI hlt hm2 htg
              obtain ⟨y, hy⟩ : ∃ y, xs[i']? = some y := ⟨xs[i']'(by omega), List.getElem?_eq_getElem _⟩
              have hny : nameAt xs i' = y.name := by unfold nameAt; rw [hy]; rfl
              rw [hny] at htg
              have HTG := Lib.hid htg
              have HM2' := Lib.hid hm2
              have hi1' : (0 : Int) ≤ (i' : Int) := by omega
              have hi2' : (i' : Int) < (xs.length : Int) := by omega
              clear hi' htg hm2 hny hE
              go_wp2_with fail
              refine HTI.out.mono ?_
              rintro e w7 ⟨rfl, hb7⟩
              have HB7 := Lib.hid (HB6.out.trans (hb7.mono HB6.out.size))
              have H37 : Hid (Below w3.heap.size w3 w7) := HBEL.out.trans (HB7.out.mono HBEL.out.size)
              have hbk7 := HBK.out.below (HB3.out.trans (H37.out.mono HB3.out.size))
              have e7 := hbk7.cell0
              obtain ⟨g9, cp9, fv9, he9, hgc9, hg19, hg29, j0', j1', j2', j3', -⟩ := hbk7.item hy
              simp only [Value.slice.injEq, Option.some.injEq, Addr.mk.injEq, and_true, true_and] at he9
              obtain ⟨rfl, rfl⟩ := he9
              have hrow7 := HROW.out.kept (row := none) ⟨HB7.out.os, HB7.out.tape, HB7.out.output, HB7.out.size, fun k hk _ => HB7.out.block k hk⟩ (Classical.em _)
              have HR7 := Lib.hid (hrow7.alloc (.cells #[.string y.name] 9))
              have hs7 := H37.out.size
              obtain ⟨yn, hyn⟩ : ∃ yn, yn = y.name := ⟨_, rfl⟩
              rw [← hyn] at j0' HR7 HTG
              clear hrow7 hbk7 j1' j2' j3' hb7 hyn z0 z1 z2 z3
              go_wp2_with (at_builtin; refine wpList_append_own _ rfl _ _ 52 rfl w3.heap.size 9 j0 (.string ⟨#[]⟩) 1 16 Try.underlying52 hj0 hy0 hy1 hy2 rfl (by decide) _ L.length (L.map Value.string) rfl HR7.out ⟨w7.heap.size, 0, none⟩ 1 1 [.string yn] rfl rfl (cell_one_new _ _ _) (fun u hu => by simp at hu; subst hu; rfl) (by unfold maxLen; omega) (by omega) (by simp; omega) ?_; intro v' w8 hown' hgrow _)
              have hg := grown_below (HROW.out.kept (row := none) ⟨HB7.out.os, HB7.out.tape, HB7.out.output, HB7.out.size, fun k hk _ => HB7.out.block k hk⟩ (Classical.em _)) hgrow hs7
              go_roundw
              case rel => exact ⟨i', L ++ [yn], rfl, by omega, HM2'.out, by simp; omega, by rw [List.append_assoc]; have h9 := HTOT.out; rw [HTG.out] at h9; exact h9, by rw [List.map_append, List.length_append]; exact hown', H37.out.trans hg.1⟩
              case measure => simp [intOf]; omega
            | true =>
              have hmf6 := (hb6.block _ (Array.getElem?_eq_some_iff.1 HMF5.out).1).trans HMF5.out
              have b6 : w6.cell? ⟨w.heap.size, 0, none⟩ = some (.string it) := cell_of_row w6 _ 0 _ _ _ hmf6
              have HB6 := Lib.hid (HB5.out.trans (hb6.mono HB5.out.size))
              have H36 : Hid (Below w3.heap.size w3 w6) := HBEL.out.trans (HB6.out.mono HBEL.out.size)
              have hrow6 := HROW.out.kept (row := none) ⟨HB6.out.os, HB6.out.tape, HB6.out.output, HB6.out.size, fun k hk _ => HB6.out.block k hk⟩ (Classical.em _)
              have HR6 := Lib.hid (hrow6.alloc (.cells #[.string it] 9))
              have HR60 := Lib.hid hrow6
              have hs6 := H36.out.size
              have htg : trailGo xs ⟨it, si, un⟩ (i + 1) i = [it] := by
                simp only [trailGo, HX.out]
                rw [if_pos (by rw [HDIR.out]; rfl)]
              have HTG := Lib.hid htg
              clear hrow6 hmf6 htg b0 hb6
              go_wp2_with (at_builtin; refine wpList_append_own _ rfl _ _ 52 rfl w3.heap.size 9 j0 (.string ⟨#[]⟩) 1 16 Try.underlying52 hj0 hy0 hy1 hy2 rfl (by decide) _ L.length (L.map Value.string) rfl HR6.out ⟨w6.heap.size, 0, none⟩ 1 1 [.string it] rfl rfl (cell_one_new _ _ _) (fun u hu => by simp at hu; subst hu; rfl) (by unfold maxLen; omega) (by omega) (by simp; omega) ?_; intro v' w8 hown' hgrow _)
              have hg := grown_below HR60.out hgrow hs6
              rcases hown'.2 with ⟨rfl, h0'⟩ | ⟨gg, capg, cur, rfl, hgg, -, -, -, -⟩
              · exact absurd h0' (by omega)
              · have hown2 : w8.ownsRow w3.heap.size 9 1 (.slice (some ⟨gg, 0, none⟩) (L.length + 1) capg) (L.length + 1) ((L ++ [it]).map Value.string) := by rw [List.map_append]; exact hown'
                have H38 : Hid (Below w3.heap.size w3 w8) := H36.out.trans hg.1
                have HO2 := Lib.hid hown2
                clear hown2 hown' hgrow hg
                refine (reverse_any gg (L.length + 1) capg w3.heap.size (L ++ [it]) w8 (by simp) (by omega) (by omega) HO2.out).mono ?_
                rintro e w9 ⟨⟨v9, rfl⟩, hrev, hk9⟩
                have H09 : Hid (Below w.heap.size w w9) := (HB3.out.trans (H38.out.mono HB3.out.size)).trans (Keep.below (hk9.mono fun k hk => by have := HB3.out.size; show k ≠ gg; omega))
                have htot : (L ++ [it]).reverse = trailOf xs ⟨it, si, un⟩ i0 := by
                  have h9 := HTOT.out
                  rw [HTG.out] at h9
                  rw [h9]
                  unfold trailOf
                  rw [HNA.out]
                have hrd := Rd.of_own hrev
                rw [htot] at hrd
                have HRD := Lib.hid hrd
                clear hrev hk9 hrd htot
                go_wp2_with fail
                go_ret2
                refine ⟨_, by rw [HT.out]; rfl, ?_, H09.out⟩
                rw [HTL.out]
                exact HRD.out.mono fun b hb => Nat.le_trans HB3.out.size hb
  · have HT : Hid (trailErr xs ⟨it, si, un⟩ nm = fe) := by unfold trailErr; rw [← HFE.out, if_neg h0]; rfl
    go_wp2_with fail
    go_ret2
    refine ⟨_, by rw [HT.out]; rfl, ?_, HB2.out⟩
    unfold trailL
    rw [HT.out, if_neg h0]
    exact Rd.none_ _ _ _
end Go.Proofs.Ytlanephpmoajiaa

