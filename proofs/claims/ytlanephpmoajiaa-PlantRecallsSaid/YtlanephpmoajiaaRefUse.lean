/- The walks of the reference's chosen and Wrong. The walk of the reference's only. The walk of the reference's From. The walk of the reference's Uses. -/
import Derived.Test.YtlanephpmoajiaaIsItem
import Derived.Test.YtlanephpmoajiaaSpreadB
import Derived.Test.YtlanephpmoajiaaUsesPlain
namespace Go.Proofs.Ytlanephpmoajiaa
open Go.RowKit

def chosenB (x : ItemD) (nm : ByteArray) : Bool := x.frm.any (fun c => hasN c nm)
set_option maxRecDepth 100000 in
set_option maxHeartbeats 1000000 in
theorem chosen_any (x : ItemD) (vf : Value) (nm : ByteArray) (S : Nat → Prop) (w : World) (hv : Rd2 w S vf x.frm) :
    Calls Try.prog 86 #[.agg #[.string x.name, .int .i64 x.kind, .int .i64 x.at_, vf], .string nm] w fun e w' => e = .returned (.bool (chosenB x nm)) ∧ Below w.heap.size w w' := by
  obtain ⟨xn, xk, xa, xf⟩ := x
  simp only at *
  obtain ⟨vs, hvs, hlen, hin⟩ := hv.lt
  obtain ⟨A, n, cap, rfl, hn, hcap, hmax, hc⟩ := hvs.open_
  have HC := Lib.hid hc
  have HIN := Lib.hid hin
  have HN : Hid (xf.length = n) := by unfold Hid; omega
  have hbw : Below w.heap.size w (w.alloc (.cells #[.string xn, .int .i64 xk, .int .i64 xa, .slice A n cap] 44)) := (Below.refl _ w).alloc (Nat.le_refl _) _
  have hm := heap_alloc_new w (.cells #[.string xn, .int .i64 xk, .int .i64 xa, .slice A n cap] 44)
  obtain ⟨W1, hW1⟩ : ∃ W1, W1 = w.alloc (.cells #[.string xn, .int .i64 xk, .int .i64 xa, .slice A n cap] 44) := ⟨_, rfl⟩
  rw [← hW1] at hbw hm
  have HW1 := Lib.hid hW1
  have c3 := cell_of_row W1 _ 3 _ _ _ hm
  clear hc hin hvs hv hn hlen hW1 hm
  go_enter Try.func86, Try.ntmps86
  go_wp2_with fail
  rw [← HW1.out]
  go_loop [5] (fun i => ∃ k : Nat, k ≤ n ∧ i = .int .i64 k ∧ Hid (∀ j, j < k → ∀ c, xf[j]? = some c → hasN c nm = false)) (fun i => n - (intOf i).toNat)
  case atStart => exact ⟨0, Nat.zero_le _, rfl, fun j hj => absurd hj (by omega)⟩
  case round =>
    obtain ⟨k, hk, rfl, HK⟩ := hrel
    by_cases hlt : k < n
    · obtain ⟨b, off, u, rfl, ⟨_, hbl⟩, hu, hcell⟩ := HC.out k hlt
      obtain ⟨c, hcc⟩ : ∃ c, xf[k]? = some c := ⟨xf[k]'(by have := HN.out; omega), List.getElem?_eq_getElem _⟩
      obtain ⟨u', hu', hrd⟩ := HIN.out k c hcc
      obtain rfl := Option.some.inj (hu.symm.trans hu')
      obtain ⟨A3, q, cap3, rfl, hq, hcap3, hmax3, hc3⟩ := hrd.open_
      have hcell3 : W1.cell? ⟨b, off + k, none⟩ = some (.slice A3 q cap3) := (hbw.cell (p := ⟨b, _, none⟩) hbl).trans hcell
      have HCC := Lib.hid hcc
      have HQ := Lib.hid hq
      have HC3 := Lib.hid hc3
      clear hu hu' hcc hq hc3 hrd hcell
      go_wp2_with fail
      go_loop [6] (fun i => ∃ l : Nat, l ≤ q ∧ i = .int .i64 l ∧ Hid (∀ p, p < l → ∀ s, c[p]? = some s → s ≠ nm)) (fun i => q - (intOf i).toNat)
      case atStart => exact ⟨0, Nat.zero_le _, rfl, fun j hj => absurd hj (by omega)⟩
      case round =>
        obtain ⟨l, hl, rfl, HL⟩ := hrel
        by_cases hlq : l < q
        · obtain ⟨b3, off3, s, rfl, ⟨_, hb3⟩, hs, hcell4⟩ := HC3.out l hlq
          have hcell5 : W1.cell? ⟨b3, off3 + l, none⟩ = some (.string s) := (hbw.cell (p := ⟨b3, _, none⟩) hb3).trans hcell4
          have heq := str_eq s nm
          have HS := Lib.hid hs
          clear hs hcell4
          by_cases he : s = nm
          · subst he
            have hbt : (s.toList == s.toList) = true := by simp
            have HR : Hid (chosenB ⟨xn, xk, xa, xf⟩ s = true) := List.any_eq_true.2 ⟨c, mem_of_get? HCC.out, hasN_hit HS.out⟩
            clear heq
            go_wp2_with fail
            go_ret
            exact ⟨ret_bool HR.out.symm, hbw⟩
          · have hbt : (s.toList == nm.toList) = false := by rw [heq]; simpa using he
            have HE := Lib.hid he
            clear heq he
            go_wp2_with fail
            go_round
            case rel =>
              refine ⟨l + 1, by omega, by go_num, fun p hp x hx => ?_⟩
              rcases Nat.lt_or_ge p l with h | h
              · exact HL.out p h x hx
              · obtain rfl : p = l := by omega
                obtain rfl := Option.some.inj (HS.out.symm.trans hx)
                exact HE.out
            case measure => simp [intOf]; omega
        · have HK1 : Hid (∀ j, j < k + 1 → ∀ c, xf[j]? = some c → hasN c nm = false) := fun p hp x hx => by
            rcases Nat.lt_or_ge p k with h | h
            · exact HK.out p h x hx
            · obtain rfl : p = k := by omega
              obtain rfl := Option.some.inj (HCC.out.symm.trans hx)
              exact hasN_miss fun j y hy => HL.out j (by have := (List.getElem?_eq_some_iff.1 hy).1; have := HQ.out; omega) y hy
          go_wp2_with fail
          go_round
          case rel => exact ⟨k + 1, by omega, by go_num, HK1⟩
          case measure => simp [intOf]; omega
    · have HR : Hid (chosenB ⟨xn, xk, xa, xf⟩ nm = false) := by
        unfold chosenB Hid
        rw [List.any_eq_false]
        intro c hc
        obtain ⟨t, ht⟩ := List.mem_iff_getElem?.1 hc
        have h1 : t < xf.length := (List.getElem?_eq_some_iff.1 ht).1
        have := HN.out
        rw [HK.out t (by omega) c ht]; simp
      go_wp2_with fail
      go_ret
      exact ⟨ret_bool HR.out.symm, hbw⟩

set_option maxRecDepth 100000 in
set_option maxHeartbeats 1000000 in
theorem wrong_any (v : Value) (xs : List ItemD) (f : FaultD) (S : Nat → Prop) (w : World) (hv : RdI w S v xs) :
    Calls Try.prog 81 #[v, .agg #[.string f.item, .int .i64 f.since, .int .i64 f.until_]] w fun e w' => e = .returned (.int .i64 (faultErr xs f)) ∧ Below w.heap.size w w' := by
  obtain ⟨it, si, un⟩ := f
  simp only
  have hbw : Below w.heap.size w (w.alloc (.cells #[.string it, .int .i64 si, .int .i64 un] 106)) := (Below.refl _ w).alloc (Nat.le_refl _) _
  have hm := heap_alloc_new w (.cells #[.string it, .int .i64 si, .int .i64 un] 106)
  have HFI := fun w' (h : Below w.heap.size w w') => refFind_any v xs S it w' (hv.below h)
  obtain ⟨A, n, cap, rfl, hn, hcap, hmax, hc⟩ := hv.lt.open_
  obtain ⟨W1, hW1⟩ : ∃ W1, W1 = w.alloc (.cells #[.string it, .int .i64 si, .int .i64 un] 106) := ⟨_, rfl⟩
  rw [← hW1] at hbw hm
  have HW1 := Lib.hid hW1
  have HF := Lib.hid (HFI W1 hbw)
  have d0 := cell_of_row W1 _ 0 _ _ _ hm
  have d1 := cell_of_row W1 _ 1 _ _ _ hm
  have d2 := cell_of_row W1 _ 2 _ _ _ hm
  clear hW1 hm HFI hv
  cases hi : idx xs it with
  | none =>
    have hf : findI xs it = -1 := by simp [findI, hi]
    have HE : Hid (faultErr xs ⟨it, si, un⟩ = 5) := by unfold faultErr Hid; simp only [hi]
    rw [hf] at HF
    clear hi hf hc hn
    go_enter Try.func81, Try.ntmps81
    go_wp2_with fail
    rw [← HW1.out]
    refine HF.out.mono ?_
    rintro e w' ⟨rfl, rfl⟩
    go_wp2_with fail
    go_ret
    exact ⟨ret_int HE.out.symm, hbw⟩
  | some i =>
    have hf : findI xs it = i := by simp [findI, hi]
    have hil := idx_lt hi
    rw [hn] at hil
    obtain ⟨b, off, y, fy, rfl, ⟨_, hbl⟩, hy, i0, i1, i2, -⟩ := hc i hil
    have HE : Hid (faultErr xs ⟨it, si, un⟩ = if y.kind = 3 then 1 else if un < si then 7 else 0) := by unfold faultErr Hid; simp only [hi, hy]
    have e1 : W1.cell? ⟨b, off + i * 4 + 1, none⟩ = some (.int .i64 y.kind) := (hbw.cell (p := ⟨b, _, none⟩) hbl).trans i1
    obtain ⟨yn, yk, ya, yf⟩ := y
    simp only at HE e1
    rw [hf] at HF
    clear hi hf hc hn hy i0 i1 i2
    by_cases hk : yk = 3
    · have hkb : (yk == 3) = true := by simpa using hk
      have HE1 := Lib.hid (HE.out.trans (if_pos hk))
      clear hk
      go_enter Try.func81, Try.ntmps81
      go_wp2_with fail
      rw [← HW1.out]
      refine HF.out.mono ?_
      rintro e w' ⟨rfl, rfl⟩
      go_wp2_with fail
      go_ret
      exact ⟨ret_int HE1.out.symm, hbw⟩
    · have hkb : (yk == 3) = false := by simpa using hk
      have HE1 := Lib.hid (HE.out.trans (if_neg hk))
      clear hk
      by_cases hsu : un < si
      · have HE2 := Lib.hid (HE1.out.trans (if_pos hsu))
        go_enter Try.func81, Try.ntmps81
        go_wp2_with fail
        rw [← HW1.out]
        refine HF.out.mono ?_
        rintro e w' ⟨rfl, rfl⟩
        go_wp2_with fail
        go_ret
        exact ⟨ret_int HE2.out.symm, hbw⟩
      · have HE2 := Lib.hid (HE1.out.trans (if_neg hsu))
        go_enter Try.func81, Try.ntmps81
        go_wp2_with fail
        rw [← HW1.out]
        refine HF.out.mono ?_
        rintro e w' ⟨rfl, rfl⟩
        go_wp2_with fail
        go_ret
        exact ⟨ret_int HE2.out.symm, hbw⟩
end Go.Proofs.Ytlanephpmoajiaa

namespace Go.Proofs.Ytlanephpmoajiaa
open Go.RowKit

/-- The marks but for one place. -/
def onlyM (ms : List Bool) (but : Int) : List Bool := ms.mapIdx (fun i b => b && decide ((i : Int) ≠ but))
theorem onlyM_get (ms : List Bool) (but : Int) (k : Nat) : (onlyM ms but)[k]? = ms[k]?.map (fun b => b && decide ((k : Int) ≠ but)) := by
  unfold onlyM; rw [List.getElem?_mapIdx]
theorem onlyM_len (ms : List Bool) (but : Int) : (onlyM ms but).length = ms.length := by unfold onlyM; simp
set_option maxRecDepth 100000 in
set_option maxHeartbeats 1000000 in
theorem only_any (v u : Value) (xs : List ItemD) (ms : List Bool) (but : Int) (S T : Nat → Prop) (w : World) (hv : RdI w S v xs) (hu : Rd .bool w T u ms) (hl : ms.length = xs.length) (hxl : xs.length ≤ 1024) :
    Calls Try.prog 74 #[v, u, .int .i64 but] w fun e w' => (∃ v', e = .returned v' ∧ Rd .string w' (w.heap.size ≤ ·) v' (namesOf xs (onlyM ms but))) ∧ Below w.heap.size w w' := by
  obtain ⟨i0, hi, hz0, hz1, hz2⟩ := info_parts info9
  obtain ⟨A, n, cap, rfl, hn, hcap, hmax, hc⟩ := hv.lt.open_
  obtain ⟨A2, m, cap2, rfl, hm, hcap2, hmax2, hc2⟩ := hu.lt.open_
  obtain rfl : n = m := by omega
  have hn1024 : n ≤ 1024 := by omega
  have HN := Lib.hid hn
  have HM := Lib.hid hm
  have HC := Lib.hid hc
  have HC2 := Lib.hid hc2
  clear hc hc2 hn hm hl hv hu hxl
  go_enter Try.func74, Try.ntmps74
  go_wp2_with fail
  go_loopw [7, 8] (fun o iv wr => ∃ k : Nat, k ≤ n ∧ iv = .int .i64 k ∧ wr.ownsRow w.heap.size 9 1 o (namesOf (xs.take k) ((onlyM ms but).take k)).length ((namesOf (xs.take k) ((onlyM ms but).take k)).map Value.string) ∧ Below w.heap.size w wr) (fun _ iv _ => n - (intOf iv).toNat)
  case atStart => exact ⟨0, Nat.zero_le _, rfl, World.ownsRow_nil _ _ _ _, Below.refl _ _⟩
  case round =>
    obtain ⟨k, hk, rfl, hown, hbel⟩ := hrel
    by_cases hlt : k < n
    · obtain ⟨b, off, mk, rfl, ⟨_, hbw⟩, hmk, hcell⟩ := HC2.out k hlt
      have hcell' : wr.cell? ⟨b, off + k, none⟩ = some (.bool mk) := (hbel.cell (p := ⟨b, off + k, none⟩) hbw).trans hcell
      obtain ⟨b2, off2, x, fx, rfl, ⟨_, hbw2⟩, hx, i0', -⟩ := HC.out k hlt
      have i1' : wr.cell? ⟨b2, off2 + k * 4, none⟩ = some (.string x.name) := (hbel.cell (p := ⟨b2, _, none⟩) hbw2).trans i0'
      have hom : (onlyM ms but)[k]? = some (mk && decide ((k : Int) ≠ but)) := by rw [onlyM_get, hmk]; rfl
      have hsn := namesOf_snoc hx hom
      have hlen := namesOf_len xs (onlyM ms but) k
      obtain ⟨L, hL⟩ : ∃ L, L = namesOf (xs.take k) ((onlyM ms but).take k) := ⟨_, rfl⟩
      rw [← hL] at hsn hown hlen
      obtain ⟨xn, xk, xa, xf⟩ := x
      simp only at i1' hsn
      have hcase : (mk = false ∧ (mk && decide ((k : Int) ≠ but)) = false) ∨ (mk = true ∧ ((k : Int) != but) = false ∧ (mk && decide ((k : Int) ≠ but)) = false) ∨ (mk = true ∧ ((k : Int) != but) = true ∧ (mk && decide ((k : Int) ≠ but)) = true) := by
        cases mk
        · exact .inl ⟨rfl, rfl⟩
        · by_cases h : (k : Int) = but
          · exact .inr (.inl ⟨rfl, by simp [h], by simp [h]⟩)
          · exact .inr (.inr ⟨rfl, by simpa using h, by simpa using h⟩)
      rcases hcase with ⟨rfl, hd⟩ | ⟨rfl, hkb, hd⟩ | ⟨rfl, hkb, hd⟩
      · rw [hd, if_neg (by simp), List.append_nil] at hsn
        have HSN := Lib.hid hsn
        clear hL hsn hmk hx hcell hom hd i0'
        go_wp2_with fail
        go_roundw
        case rel => exact ⟨k + 1, by omega, by go_num, by rw [HSN.out]; exact hown, hbel⟩
        case measure => simp [intOf]; omega
      · rw [hd, if_neg (by simp), List.append_nil] at hsn
        have HSN := Lib.hid hsn
        clear hL hsn hmk hx hcell hom hd i0'
        go_wp2_with fail
        go_roundw
        case rel => exact ⟨k + 1, by omega, by go_num, by rw [HSN.out]; exact hown, hbel⟩
        case measure => simp [intOf]; omega
      · rw [hd, if_pos rfl] at hsn
        have HSN := Lib.hid hsn
        have hszw := hbel.size
        clear hL hsn hmk hx hcell hom hd i0'
        go_wp2_with (at_builtin; refine wpList_append_own _ rfl _ _ 52 rfl w.heap.size 9 i0 (.string ⟨#[]⟩) 1 16 Try.underlying52 hi hz0 hz1 hz2 rfl (by decide) _ _ _ rfl (hown.alloc _) ⟨wr.heap.size, 0, none⟩ 1 1 [.string xn] rfl rfl (cell_one_new _ _ _) (fun u hu => by simp at hu; subst hu; rfl) (by unfold maxLen; omega) (by omega) (by simp; omega) ?_; intro v' w1 hown' hgrow _)
        have hg := grown_below hown hgrow hszw
        go_roundw
        case rel => exact ⟨k + 1, by omega, by go_num, by rw [HSN.out, List.map_append, List.length_append]; exact hown', hbel.trans hg.1⟩
        case measure => simp [intOf]; omega
    · have h1 : xs.take k = xs := List.take_of_length_le (by have := HN.out; omega)
      have h2 : (onlyM ms but).take k = onlyM ms but := List.take_of_length_le (by rw [onlyM_len]; have := HM.out; omega)
      rw [h1, h2] at hown
      have HO := Lib.hid hown
      clear hown h1 h2
      go_wp2_with fail
      go_ret
      exact ⟨⟨_, rfl, Rd.of_own HO.out⟩, hbel⟩
end Go.Proofs.Ytlanephpmoajiaa

namespace Go.Proofs.Ytlanephpmoajiaa
open Go.RowKit

/-- Does a marked place before i hold a choice of item i? -/
def fromHit (xs : List ItemD) (m : List Bool) (i k : Nat) : Bool := m.getD k false && (match xs[i]?, xs[k]? with | some x, some y => chosenB x y.name | _, _ => false)
def fromAt (xs : List ItemD) (m : List Bool) (i : Nat) : Bool := m.getD i false || (List.range i).any (fromHit xs m i)
def fromGo (xs : List ItemD) (m : List Bool) : Nat → List Bool
  | 0 => m
  | d + 1 => (fromGo xs m d).set d (fromAt xs (fromGo xs m d) d)
theorem fromGo_len (xs : List ItemD) (m : List Bool) : ∀ d, (fromGo xs m d).length = m.length
  | 0 => rfl
  | d + 1 => by simp [fromGo, fromGo_len xs m d]
/-- The marks while item i is looked at: l places have been seen. -/
def fromMid (xs : List ItemD) (m : List Bool) (i l : Nat) : List Bool := m.set i (m.getD i false || (List.range l).any (fromHit xs m i))
theorem set_getD (m : List Bool) (i : Nat) : m.set i (m.getD i false) = m := by
  refine List.ext_getElem (by simp) fun j h1 h2 => ?_
  rw [List.getElem_set]
  split
  · rename_i h; subst h; simp [List.getD, List.getElem?_eq_getElem h2]
  · rfl
theorem fromMid_zero (xs : List ItemD) (m : List Bool) (i : Nat) : fromMid xs m i 0 = m := by
  unfold fromMid
  have e : (m.getD i false || (List.range 0).any (fromHit xs m i)) = m.getD i false := by simp
  rw [e, set_getD]
theorem fromMid_end (xs : List ItemD) (m : List Bool) (i : Nat) : fromMid xs m i i = m.set i (fromAt xs m i) := rfl
theorem fromMid_len (xs : List ItemD) (m : List Bool) (i l : Nat) : (fromMid xs m i l).length = m.length := by unfold fromMid; simp
theorem fromMid_get {xs : List ItemD} {m : List Bool} {i l k : Nat} (h : k < i) : (fromMid xs m i l).getD k false = m.getD k false := by
  unfold fromMid; rw [getD_set, if_neg (by omega)]
theorem fromMid_miss {xs : List ItemD} {m : List Bool} {i l : Nat} (h : fromHit xs m i l = false) : fromMid xs m i (l + 1) = fromMid xs m i l := by
  unfold fromMid; rw [List.range_succ, List.any_append]; simp [h]
theorem fromMid_hit {xs : List ItemD} {m : List Bool} {i l : Nat} (h : fromHit xs m i l = true) : fromMid xs m i (l + 1) = (fromMid xs m i l).set i true := by
  unfold fromMid; rw [List.range_succ, List.any_append, List.set_set]; simp [h]
/-- What the loops of From keep. -/
def FromW (w : World) (v : Value) (n : Nat) (m : List Bool) (wr : World) : Prop := wr.ownsRow w.heap.size 4 1 v n (m.map Value.bool) ∧ Below w.heap.size w wr
theorem FromW.below {w wr w2 : World} {v : Value} {n : Nat} {m : List Bool} (h : FromW w v n m wr) (hb : Below wr.heap.size wr w2) : FromW w v n m w2 :=
  ⟨h.1.kept (row := none) ⟨hb.os, hb.tape, hb.output, hb.size, fun k hk _ => hb.block k hk⟩ (Classical.em _), h.2.trans (hb.mono h.2.size)⟩
theorem FromW.at_ {w wr : World} {A : Option Addr} {n c : Nat} {m : List Bool} (h : FromW w (.slice A n c) n m wr) {k : Nat} (hk : k < n) :
    ∃ g, A = some ⟨g, 0, none⟩ ∧ w.heap.size ≤ g ∧ g < wr.heap.size ∧ wr.cell? ⟨g, k, none⟩ = some (.bool (m.getD k false)) ∧ wr.frozen? ⟨g, k, none⟩ = false := by
  obtain ⟨g, u, h1, h2, h3, h4, h5, h6⟩ := ownsRow_at h.1 k hk
  refine ⟨g, h1, h2, h3, ?_, h6⟩
  rw [List.getElem?_map, Option.map_eq_some_iff] at h4
  obtain ⟨b, hb, rfl⟩ := h4
  rw [h5]; simp [List.getD, hb]
theorem FromW.store {w wr : World} {g n c : Nat} {m : List Bool} (h : FromW w (.slice (some ⟨g, 0, none⟩) n c) n m wr) (hg : w.heap.size ≤ g) (i : Nat) : FromW w (.slice (some ⟨g, 0, none⟩) n c) n (m.set i true) (wr.setCell ⟨g, i, none⟩ (.bool true)) :=
  ⟨by have := (h.1.stored i (.bool true)).1; rw [List.map_set]; exact this, h.2.setCell hg _⟩

set_option maxRecDepth 100000 in
set_option maxHeartbeats 1000000 in
theorem from_any (v u : Value) (xs : List ItemD) (ms : List Bool) (S T : Nat → Prop) (w : World) (hv : RdI w S v xs) (hu : Rd .bool w T u ms) (hl : ms.length = xs.length) (hxl : xs.length ≤ 1024) :
    Calls Try.prog 72 #[v, u] w fun e w' => (∃ v', e = .returned v' ∧ w'.ownsRow w.heap.size 4 1 v' xs.length ((fromGo xs ms xs.length).map Value.bool)) ∧ Below w.heap.size w w' := by
  obtain ⟨i0, hi, hz0, hz1, hz2⟩ := info_parts info4
  have hr1 : Rd .bool (w.alloc (.cells #[] 4)) (fun _ => True) u ms := (hu.lt.keep ((Keep.refl _ w).alloc (fun k hk => hk.2) _)).mono fun _ _ => trivial
  obtain ⟨A, n, cap, rfl, hn, hcap, hmax, hc⟩ := hv.lt.open_
  have hn1024 : n ≤ 1024 := by omega
  have hmn : ms.length = n := by omega
  have HN := Lib.hid hn
  have HM := Lib.hid hmn
  have HC := Lib.hid hc
  have hm1024 : ms.length ≤ 1024 := by omega
  clear hc hn hl hv hxl hmn
  obtain ⟨Au, nu, cu, rfl⟩ : ∃ A n c, u = .slice A n c := by obtain ⟨A, c, e, _⟩ := hu; exact ⟨_, _, _, e⟩
  clear hu
  go_enter Try.func72, Try.ntmps72
  go_wp2_with (at_builtin; first | (refine wpList_append_rd (f := Value.bool) rfl _ _ 122 rfl w.heap.size 4 i0 (.bool false) 1 Try.underlying122 hi hz0 hz1 hz2 rfl (.slice (some ⟨w.heap.size, 0, none⟩) 0 0) 0 [] rfl (World.ownsRow_made w #[] 0 (Nat.le_refl _) (by decide) rfl) (.slice Au nu cu) (fun _ => True) ms rfl hr1 (fun u hu => by obtain ⟨x, _, rfl⟩ := List.mem_map.1 hu; rfl) (by unfold maxLen; omega) (by omega) (by simp) ?_; intro v' w1 hown1 hg1 _; rw [Nat.zero_add, List.nil_append] at hown1; have hb1 : Below w.heap.size w w1 := ((Below.refl _ w).alloc (Nat.le_refl _) _).grown hg1 (by simp) (fun k hk => by simp [Value.ownBlock] at hk; omega); have HO1 := Lib.hid hown1; obtain ⟨A1, c1, rfl⟩ := ownsRow_slice hown1))
  have hF0 : FromW w (.slice A1 ms.length c1) ms.length (fromGo xs ms 0) w1 := ⟨HO1.out, hb1⟩
  rw [HM.out] at hF0 ⊢
  have HF0 := Lib.hid hF0
  clear hF0 hown1 hg1 hb1 HO1
  go_loopw [6] (fun iv wr => ∃ k : Nat, k ≤ n ∧ iv = .int .i64 k ∧ FromW w (.slice A1 n c1) n (fromGo xs ms k) wr) (fun iv _ => n - (intOf iv).toNat)
  case atStart => exact ⟨0, Nat.zero_le _, rfl, HF0.out⟩
  case round =>
    clear HF0
    obtain ⟨i, hi', rfl, hF⟩ := hrel
    by_cases hlt : i < n
    · obtain ⟨m, hm⟩ : ∃ m, m = fromGo xs ms i := ⟨_, rfl⟩
      rw [← hm] at hF
      have HMM := Lib.hid hm
      have HF := Lib.hid hF
      clear hm hF
      go_wp2_with fail
      go_loopw [7] (fun iv wr => ∃ l : Nat, l ≤ i ∧ iv = .int .i64 l ∧ FromW w (.slice A1 n c1) n (fromMid xs m i l) wr) (fun iv _ => i - (intOf iv).toNat)
      case atStart => exact ⟨0, Nat.zero_le _, rfl, by rw [fromMid_zero]; exact HF.out⟩
      case round =>
        clear HF
        obtain ⟨l, hl, rfl, hF⟩ := hrel
        by_cases hli : l < i
        · obtain ⟨g, rfl, hg, hgw, hcl, -⟩ := hF.at_ (k := l) (by omega)
          rw [fromMid_get hli] at hcl
          cases hb : m.getD l false with
          | false =>
            rw [hb] at hcl
            have hh : fromHit xs m i l = false := by unfold fromHit; rw [hb]; rfl
            have hnx := fromMid_miss hh
            have HNX := Lib.hid hnx
            have HF := Lib.hid hF
            clear hF hh hnx hb
            go_wp2_with fail
            go_quiet (fail)
            go_wp2_with fail
            go_roundw
            case rel => exact ⟨l + 1, by omega, by go_num, by rw [HNX.out]; exact HF.out.below (below_drewN (Below.refl _ _) _)⟩
            case measure => simp [intOf]; omega
          | true =>
            rw [hb] at hcl
            obtain ⟨b, off, x, fx, rfl, ⟨_, hbl⟩, hx, i0', i1', i2', i3', hfx⟩ := HC.out i hlt
            obtain ⟨b', off', y, fy, he, -, hy, j0', -⟩ := HC.out l (by omega)
            simp only [Option.some.injEq, Addr.mk.injEq, and_true] at he
            obtain ⟨rfl, rfl⟩ := he
            have hbw := hF.2
            have p0 := (hbw.cell (p := ⟨b, off + i * 4, none⟩) hbl).trans i0'
            have p1 := (hbw.cell (p := ⟨b, off + i * 4 + 1, none⟩) hbl).trans i1'
            have p2 := (hbw.cell (p := ⟨b, off + i * 4 + 2, none⟩) hbl).trans i2'
            have p3 := (hbw.cell (p := ⟨b, off + i * 4 + 3, none⟩) hbl).trans i3'
            have p4 := (hbw.cell (p := ⟨b, off + l * 4, none⟩) hbl).trans j0'
            have hh : fromHit xs m i l = chosenB x y.name := by unfold fromHit; rw [hb]; simp [hx, hy]
            obtain ⟨Af, nf, cf, rfl⟩ := hfx.isSlice
            obtain ⟨ch, hch⟩ : ∃ ch, ch = chosenB x y.name := ⟨_, rfl⟩
            have HCH : Hid (∀ q, Calls Try.prog 86 #[.agg #[.string x.name, .int .i64 x.kind, .int .i64 x.at_, .slice Af nf cf], .string y.name] (wr.drewN q) fun e w' => e = .returned (.bool ch) ∧ Below wr.heap.size wr w') := fun q => by
              refine (chosen_any x _ y.name _ (wr.drewN q) ((hfx.below hbw).below (below_drewN (Below.refl _ _) q))).mono fun e w' ⟨h3, h4⟩ => ⟨by rw [h3, hch], ?_⟩
              have h5 : (wr.drewN q).heap = wr.heap := by simp
              rw [h5] at h4
              exact (below_drewN (Below.refl _ wr) q).trans h4
            rw [← hch] at hh
            have hl0 : (0 : Int) ≤ (l : Int) := by omega
            have hln : (l : Int) < (n : Int) := by omega
            have hi0 : (0 : Int) ≤ (i : Int) := by omega
            have hin : (i : Int) < (n : Int) := by omega
            have hblw : b < wr.heap.size := by have := hbw.size; omega
            obtain ⟨xn, xk, xa, xf⟩ := x
            obtain ⟨yn, yk, ya, yf⟩ := y
            simp only at p0 p1 p2 p4 HCH
            have HH := Lib.hid hh
            have HF := Lib.hid hF
            clear hF hh hb hch hx hy i0' i1' i2' i3' j0' hfx
            go_wp2_with fail
            go_region_held3 (fun w' => w'.cell? ⟨g, l, none⟩ = some (.bool true) ∧ w'.cell? ⟨b, off + i * 4, none⟩ = some (.string xn) ∧ w'.cell? ⟨b, off + i * 4 + 1, none⟩ = some (.int .i64 xk) ∧ w'.cell? ⟨b, off + i * 4 + 2, none⟩ = some (.int .i64 xa) ∧ w'.cell? ⟨b, off + i * 4 + 3, none⟩ = some (.slice Af nf cf) ∧ w'.cell? ⟨b, off + l * 4, none⟩ = some (.string yn)) (first | exact ⟨hcl, p0, p1, p2, p3, p4⟩ | exact ⟨r0, r1, r2, r3, r4, r5⟩)
              (first | (go_at_call 86; refine (HCH.out _).mono ?_; rintro e w6 ⟨rfl, hb6⟩; have r0 := (hb6.cell (p := ⟨g, l, none⟩) hgw).trans hcl; have r1 := (hb6.cell (p := ⟨b, off + i * 4, none⟩) hblw).trans p0; have r2 := (hb6.cell (p := ⟨b, off + i * 4 + 1, none⟩) hblw).trans p1; have r3 := (hb6.cell (p := ⟨b, off + i * 4 + 2, none⟩) hblw).trans p2; have r4 := (hb6.cell (p := ⟨b, off + i * 4 + 3, none⟩) hblw).trans p3; have r5 := (hb6.cell (p := ⟨b, off + l * 4, none⟩) hblw).trans p4))
            all_goals
              have hF6 := HF.out.below hb6
              obtain ⟨g', he', -, -, hci, hfi⟩ := hF6.at_ (k := i) hlt
              simp only [Option.some.injEq, Addr.mk.injEq, and_true] at he'
              subst he'
              have HF6 := Lib.hid hF6
              clear hF6
              cases ch with
              | false =>
                have HNX := Lib.hid (fromMid_miss HH.out)
                go_wp2_with fail
                go_roundw
                case rel => exact ⟨l + 1, by omega, by go_num, by rw [HNX.out]; exact HF6.out⟩
                case measure => simp [intOf]; omega
              | true =>
                have HNX := Lib.hid (fromMid_hit HH.out)
                go_wp2_with fail
                go_roundw
                case rel => exact ⟨l + 1, by omega, by go_num, by rw [HNX.out]; exact HF6.out.store hg i⟩
                case measure => simp [intOf]; omega
        · have hl' : l = i := by omega
          subst hl'
          have HF := Lib.hid hF
          clear hF
          go_wp2_with fail
          go_roundw
          case rel => exact ⟨l + 1, by omega, by go_num, by have := HF.out; rw [fromMid_end, HMM.out] at this; exact this⟩
          case measure => simp [intOf]; omega
    · have hin : i = n := by omega
      have HF := Lib.hid hF
      clear hF
      go_wp2_with fail
      go_ret
      have := HF.out
      rw [hin] at this
      exact ⟨⟨_, rfl, by rw [HN.out]; exact this.1⟩, this.2⟩
end Go.Proofs.Ytlanephpmoajiaa

namespace Go.Proofs.Ytlanephpmoajiaa
open Go.RowKit
theorem made_false (n : Nat) : (madeCells (Value.bool false).cells (n * 1)).toList = (List.replicate n false).map Value.bool := by
  rw [Nat.mul_one, show (madeCells (Value.bool false).cells n).toList = List.replicate n (.bool false) from toList_madeCells_one _ _]; simp
/-- The marks of the reference's Uses. -/
def refUsesMs (xs : List ItemD) (i : Nat) : List Bool := onlyM (fromGo xs ((List.replicate xs.length false).set i true) xs.length) i
/-- What the reference's Uses leaves. -/
def RefUsesPost (w : World) (xs : List ItemD) (nm : ByteArray) (e : Ending) (w' : World) : Prop :=
  ((idx xs nm = none ∧ e = .returned (.tuple #[.slice none 0 0, .int .i64 5])) ∨ ∃ (i : Nat) (v : Value), idx xs nm = some i ∧ e = .returned (.tuple #[v, .int .i64 0]) ∧ Rd .string w' (w.heap.size ≤ ·) v (namesOf xs (refUsesMs xs i))) ∧ Below w.heap.size w w'
set_option maxRecDepth 100000 in
set_option maxHeartbeats 1000000 in
theorem refUses_any (v : Value) (xs : List ItemD) (nm : ByteArray) (S : Nat → Prop) (w : World) (hv : RdI w S v xs) (hxl : xs.length ≤ 1024) :
    Calls Try.prog 39 #[v, .string nm] w (RefUsesPost w xs nm) := by
  obtain ⟨i0, hi0, hz0, hz1, hz2⟩ := info_parts info4
  have HF := Lib.hid (refFind_any v xs S nm w hv)
  have HV := Lib.hid hv
  obtain ⟨A, n, cap, rfl, hn, hcap, hmax, -⟩ := hv.lt.open_
  have HXL := Lib.hid hxl
  have hn1024 : n ≤ 1024 := by omega
  cases hi : idx xs nm with
  | none =>
    have hf : findI xs nm = -1 := by simp [findI, hi]
    rw [hf] at HF
    have HI := Lib.hid hi
    clear hf hi hn hv hxl
    go_enter Try.func39, Try.ntmps39
    go_wp2_with (go_at_call 27; refine HF.out.mono ?_; rintro e w' ⟨rfl, rfl⟩)
    go_ret2
    exact ⟨.inl ⟨HI.out, rfl⟩, Below.refl _ _⟩
  | some i =>
    have hf : findI xs nm = i := by simp [findI, hi]
    have hil := idx_lt hi
    rw [hn] at hil
    rw [hf] at HF
    have HI := Lib.hid hi
    have HN := Lib.hid hn
    have hi1 : (0 : Int) ≤ (i : Int) := by omega
    have hi2 : (i : Int) < (n : Int) := by omega
    clear hf hi hn hv hxl
    go_enter Try.func39, Try.ntmps39
    go_wp2_with (first | (go_at_call 27; refine HF.out.mono ?_; rintro e w' ⟨rfl, rfl⟩) | (at_make; refine wpList_make_full _ rfl _ _ 122 rfl w.heap.size 4 i0 (.bool false) 1 Try.underlying122 hi0 hz0 hz1 .i64 .i64 (n : Int) (n : Int) n rfl rfl rfl rfl (by rw [hz2]; omega) (by unfold maxLen; omega) (by simp) ?_; intro w1 hown hgrow; have hb1 : Below w.heap.size w w1 := (Below.refl _ w).grown hgrow (Nat.le_refl _) (fun k hk => by simp at hk); have hF1 : FromW w (.slice (some ⟨w.heap.size, 0, none⟩) n n) n (List.replicate n false) w1 := ⟨(by have h := hown; rw [made_false] at h; exact h), hb1⟩; obtain ⟨g0, hg0, -, -, hcc, hff⟩ := hF1.at_ (k := i) hil; simp only [Option.some.injEq, Addr.mk.injEq, and_true] at hg0; subst hg0; have HF1 := Lib.hid hF1; clear hF1 hown hgrow))
    have hF2 := HF1.out.store (Nat.le_refl _) i
    have HF2 := Lib.hid hF2
    clear hF2 HF1
    obtain ⟨W2, hW2⟩ : ∃ W2, W2 = w1.setCell ⟨w.heap.size, i, none⟩ (.bool true) := ⟨_, rfl⟩
    rw [← hW2] at HF2 ⊢
    clear hW2
    have hlm : ((List.replicate n false).set i true).length = xs.length := by rw [HN.out]; simp
    refine (from_any _ _ xs ((List.replicate n false).set i true) S (w.heap.size ≤ ·) W2 (HV.out.below HF2.out.2) (Rd.of_own HF2.out.1) hlm HXL.out).mono ?_
    rintro e w3 ⟨⟨v3, rfl, ho3⟩, hb3⟩
    have hb03 : Below w.heap.size w w3 := HF2.out.2.trans (hb3.mono HF2.out.2.size)
    have HON := Lib.hid (only_any (.slice A n cap) v3 xs _ i S _ w3 (HV.out.below hb03) (Rd.of_own ho3) (by rw [fromGo_len]; exact hlm) HXL.out)
    clear ho3
    go_wp2_with fail
    refine HON.out.mono ?_
    rintro e w4 ⟨⟨v4, rfl, hr4⟩, hb4⟩
    go_wp2_with fail
    go_ret2
    refine ⟨.inr ⟨i, _, HI.out, rfl, ?_⟩, hb03.trans (hb4.mono hb03.size)⟩
    have : refUsesMs xs i = onlyM (fromGo xs ((List.replicate n false).set i true) xs.length) i := by unfold refUsesMs; rw [HN.out]
    rw [this]
    exact hr4.mono fun b hb => Nat.le_trans hb03.size hb
end Go.Proofs.Ytlanephpmoajiaa

