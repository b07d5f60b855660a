/- Items of a genealogy, and a map from their names to their places. The walks of plant.isName and of the reference's Name. -/
import Derived.Test.YtogccnngdfancaaGreatPart01
import Derived.StringKeys
import Derived.Maps.Own
import Derived.Maps.OwnOps
import Derived.Maps.OwnSet
import Derived.Maps.Views
namespace Go.Proofs.YtogccnngdfancaaGreat
open Go.RowKit Go.Maps Go.WideMaps

structure ItemD where
  name : ByteArray
  kind : Int
  at_ : Int
  frm : List (List ByteArray)

/-- The place of the first item with a name. -/
def idx (xs : List ItemD) (nm : ByteArray) : Option Nat := xs.findIdx? (fun x => decide (x.name = nm))
def idxI (xs : List ItemD) (nm : ByteArray) : Int := match idx xs nm with | some i => i | none => 0
theorem idx_lt {xs : List ItemD} {nm : ByteArray} {i : Nat} (h : idx xs nm = some i) : i < xs.length := by
  unfold idx at h; rw [List.findIdx?_eq_some_iff_getElem] at h; exact h.1
theorem idx_get {xs : List ItemD} {nm : ByteArray} {i : Nat} (h : idx xs nm = some i) : ∃ x, xs[i]? = some x ∧ x.name = nm := by
  unfold idx at h; rw [List.findIdx?_eq_some_iff_getElem] at h
  obtain ⟨h1, h2, _⟩ := h
  exact ⟨_, List.getElem?_eq_getElem h1, by simpa using h2⟩
theorem idx_snoc_other {xs : List ItemD} {x : ItemD} {nm : ByteArray} (h : x.name ≠ nm) : idx (xs ++ [x]) nm = idx xs nm := by
  unfold idx; rw [List.findIdx?_append]; simp [List.findIdx?_cons, h]
theorem idx_snoc_same {xs : List ItemD} {x : ItemD} (h : idx xs x.name = none) : idx (xs ++ [x]) x.name = some xs.length := by
  unfold idx at h ⊢; rw [List.findIdx?_append, h]; simp [List.findIdx?_cons]
theorem ba_inj {a b : ByteArray} (h : a.data.toList = b.data.toList) : a = b := by
  cases a with | mk a => cases b with | mk b => congr 1; exact Array.toList_inj.1 h

theorem keyed9 : Keyed Tryz.prog 9 := string_keyed Tryz.underlying9
theorem zero3 (w : World) : (zeroValue 3).run Tryz.prog w = .ok (.int .i64 0) w := by kernel_rfl

/-- Block b is a map that leads each name to its place. -/
def MapIs (w : World) (b : Nat) (xs : List ItemD) : Prop :=
  ∃ (n : Nat) (D : DataW Unit), w.ownsMap Tryz.prog 9 (plainElem Tryz.prog 3) b n D ∧ n ≤ xs.length ∧ IsMap D ∧
    ∀ nm : ByteArray, ∀ z, D.atKey (.string nm.data.toList) z = match idx xs nm with | some i => .lit (.int .i64 i) | none => z
/-- The map value r, nil or not, leads each name to its place. -/
def MapV (w : World) (r : Option Nat) (xs : List ItemD) : Prop := (r = none ∧ xs = []) ∨ ∃ b, r = some b ∧ MapIs w b xs

theorem MapIs.same {w w' : World} {b : Nat} {xs : List ItemD} (h : MapIs w b xs) (hb : w'.heap[b]? = w.heap[b]?) : MapIs w' b xs := by
  obtain ⟨n, D, ⟨es, clock, h1, h2⟩, h3⟩ := h
  exact ⟨n, D, ⟨es, clock, hb.trans h1, h2⟩, h3⟩
theorem MapIs.lt {w : World} {b : Nat} {xs : List ItemD} (h : MapIs w b xs) : b < w.heap.size := let ⟨_, _, h, _⟩ := h; h.lt
theorem MapIs.isMap {w : World} {b : Nat} {xs : List ItemD} (h : MapIs w b xs) : ∃ es c, w.heap[b]? = some (.map es c) := let ⟨_, _, ⟨es, c, h, _⟩, _⟩ := h; ⟨es, c, h⟩
theorem MapIs.made (w : World) : MapIs (w.alloc (.map #[] 0)) w.heap.size [] :=
  ⟨0, .map [], World.ownsMap_made _ _ _ _, Nat.le_refl _, isMap_empty, fun _ _ => rfl⟩

theorem MapV.look_ok {w : World} {r : Option Nat} {xs : List ItemD} {nm : ByteArray} (h : MapV w r xs) (hnm : nm.size ≤ maxLen) :
    (Instr.lookup 102 (.map r) (.string nm) true).run Tryz.prog w = .ok (.tuple #[.int .i64 (idxI xs nm), .bool (idx xs nm).isSome]) w := by
  have hk : keyOf Tryz.prog 9 (.string nm) = some (.string nm.data.toList) := keyOf_string_mk Tryz.underlying9 hnm
  rcases h with ⟨rfl, rfl⟩ | ⟨b, rfl, n, D, h1, h2, h3, h4⟩
  · rw [look_nil true keyed9 Tryz.underlying102 (zero3 w) hk]; rfl
  · obtain ⟨v, ps, hr, hv⟩ := h1.look_ok keyed9 Tryz.underlying102 (zero3 w) (plainElem_int Tryz.underlying3 (by decide)) hk
    rw [hr]
    obtain ⟨a, rfl, ha, _⟩ := plainElem_int_inv Tryz.underlying3 hv
    simp only [Prod.mk.injEq] at ha
    have h5 := h4 nm
    cases hi : idx xs nm with
    | none =>
      simp only [hi] at h5
      rw [h5] at ha
      have := ha.1
      simp only [DataW.lit.injEq, Lit.int.injEq, true_and] at this
      rw [has_false_of_atKey h5]
      simp [idxI, hi, this]
    | some i =>
      simp only [hi] at h5
      rw [h5] at ha
      have := ha.1
      simp only [DataW.lit.injEq, Lit.int.injEq, true_and] at this
      rw [has_true_of_atKey h5]
      simp [idxI, hi, this]
theorem MapV.look {w : World} {r : Option Nat} {xs : List ItemD} {nm : ByteArray} (h : MapV w r xs) (hnm : nm.size ≤ maxLen) :
    (Instr.lookup 102 (.map r) (.string nm) false).run Tryz.prog w = .ok (.int .i64 (idxI xs nm)) w := by
  have hk : keyOf Tryz.prog 9 (.string nm) = some (.string nm.data.toList) := keyOf_string_mk Tryz.underlying9 hnm
  rcases h with ⟨rfl, rfl⟩ | ⟨b, rfl, n, D, h1, h2, h3, h4⟩
  · rw [look_nil false keyed9 Tryz.underlying102 (zero3 w) hk]; rfl
  · obtain ⟨c, hr, hc, _⟩ := h1.lookup_int keyed9 Tryz.underlying102 Tryz.underlying3 (zero3 w) hk
    rw [hr]
    have h5 := h4 nm (.lit (.int .i64 0))
    rw [hc] at h5
    cases hi : idx xs nm with
    | none => simp only [hi] at h5; simp only [DataW.lit.injEq, Lit.int.injEq, true_and] at h5; simp [idxI, hi, h5]
    | some i => simp only [hi] at h5; simp only [DataW.lit.injEq, Lit.int.injEq, true_and] at h5; simp [idxI, hi, h5]
theorem MapIs.update {w : World} {b : Nat} {xs : List ItemD} {x : ItemD} (h : MapIs w b xs) (hx : idx xs x.name = none) (hnm : x.name.size ≤ maxLen) (hl : xs.length ≤ 2000) :
    ∃ w', (Instr.mapUpdate 102 (.map (some b)) (.string x.name) (.int .i64 xs.length)).run Tryz.prog w = .ok () w' ∧ MapIs w' b (xs ++ [x]) ∧ w.grownBy w' (some b) := by
  have hk : keyOf Tryz.prog 9 (.string x.name) = some (.string x.name.data.toList) := keyOf_string_mk Tryz.underlying9 hnm
  obtain ⟨n, D, h1, h2, h3, h4⟩ := h
  have hwf : (Lit.int .i64 (xs.length : Int)).wf = true := WalkArith.wf_i64 (by omega)
  obtain ⟨w', hr, ho, hg⟩ := h1.update keyed9 Tryz.underlying102 (by unfold maxLen; omega) hk (plainElem_int (H := Unit) Tryz.underlying3 hwf)
  refine ⟨w', hr, ⟨n + 1, _, ho, by simp; omega, h3.put _ _, fun nm z => ?_⟩, hg⟩
  by_cases hn : x.name = nm
  · subst hn
    rw [atKey_put_same h3 (Keyed.key keyed9 hk), idx_snoc_same hx]
  · rw [atKey_put_other (by intro e; simp only [Lit.string.injEq] at e; exact hn (ba_inj e).symm), h4, idx_snoc_other hn]
end Go.Proofs.YtogccnngdfancaaGreat
namespace Go.Proofs.YtogccnngdfancaaGreat
open Go.RowKit

/-- A byte that a name may hold. -/
def nameByte (c : UInt8) : Bool := (97 ≤ c.toNat && c.toNat ≤ 122) || (65 ≤ c.toNat && c.toNat ≤ 90) || (48 ≤ c.toNat && c.toNat ≤ 57) || c.toNat == 45 || c.toNat == 95 || c.toNat == 46
/-- A name: 1 to 24 such bytes. -/
def nameB (l : List UInt8) : Bool := decide (1 ≤ l.length) && decide (l.length ≤ 24) && l.all nameByte
theorem nameB_long {l : List UInt8} (h : l.length < 1 ∨ 24 < l.length) : nameB l = false := by
  unfold nameB; rcases h with h | h
  · rw [show decide (1 ≤ l.length) = false from decide_eq_false (by omega)]; rfl
  · rw [show decide (l.length ≤ 24) = false from decide_eq_false (by omega)]; simp
theorem nameB_bad {l : List UInt8} {c : UInt8} (h : c ∈ l) (hc : nameByte c = false) : nameB l = false := by
  unfold nameB
  rw [show l.all nameByte = false from by rw [List.all_eq_false]; exact ⟨c, h, by simp [hc]⟩]; simp
theorem nameB_good {l : List UInt8} (h1 : 1 ≤ l.length) (h2 : l.length ≤ 24) (h : ∀ c ∈ l, nameByte c = true) : nameB l = true := by
  unfold nameB
  rw [show l.all nameByte = true from by rw [List.all_eq_true]; exact h]; simp [h1, h2]
theorem byteCase (c : UInt8) : ∃ n : Int, n = c.toNat ∧ 0 ≤ n ∧ n ≤ 255 ∧ ((97 ≤ n ∧ n ≤ 122 ∧ nameByte c = true) ∨ (65 ≤ n ∧ n ≤ 90 ∧ nameByte c = true) ∨ (48 ≤ n ∧ n ≤ 57 ∧ nameByte c = true) ∨ (n = 45 ∧ nameByte c = true) ∨ (n = 95 ∧ nameByte c = true) ∨ (n = 46 ∧ nameByte c = true) ∨
    ((122 < n ∨ (90 < n ∧ n < 97) ∨ (57 < n ∧ n < 65) ∨ n < 48) ∧ (n != 45) = true ∧ (n != 95) = true ∧ (n != 46) = true ∧ nameByte c = false)) := by
  have := c.toNat_lt
  refine ⟨c.toNat, rfl, by omega, by omega, ?_⟩
  unfold nameByte
  by_cases h1 : 97 ≤ c.toNat ∧ c.toNat ≤ 122
  · exact .inl ⟨by omega, by omega, by simp [h1]⟩
  by_cases h2 : 65 ≤ c.toNat ∧ c.toNat ≤ 90
  · exact .inr (.inl ⟨by omega, by omega, by simp [h2]⟩)
  by_cases h3 : 48 ≤ c.toNat ∧ c.toNat ≤ 57
  · exact .inr (.inr (.inl ⟨by omega, by omega, by simp [h3]⟩))
  by_cases h4 : c.toNat = 45
  · exact .inr (.inr (.inr (.inl ⟨by omega, by simp [h4]⟩)))
  by_cases h5 : c.toNat = 95
  · exact .inr (.inr (.inr (.inr (.inl ⟨by omega, by simp [h5]⟩))))
  by_cases h6 : c.toNat = 46
  · exact .inr (.inr (.inr (.inr (.inr (.inl ⟨by omega, by simp [h6]⟩)))))
  · refine .inr (.inr (.inr (.inr (.inr (.inr ⟨by omega, by simp; omega, by simp; omega, by simp; omega, ?_⟩)))))
    simp only [Bool.or_eq_false_iff, Bool.and_eq_false_iff, decide_eq_false_iff_not, beq_eq_false_iff_ne]
    omega

set_option maxRecDepth 100000 in
set_option maxHeartbeats 1000000 in
theorem isName_any (s : ByteArray) (w : World) : Calls Tryz.prog 72 #[.string s] w fun e w' => e = .returned (.bool (nameB s.data.toList)) ∧ Below w.heap.size w w' := by
  have hlen : s.data.toList.length = s.size := by simp
  by_cases h0 : s.size < 1
  · have HF := Lib.hid (nameB_long (l := s.data.toList) (.inl (by omega)))
    clear hlen
    go_enter Tryz.func72, Tryz.ntmps72
    go_wp2_with fail
    go_ret
    exact ⟨ret_bool HF.out.symm, Below.refl _ _⟩
  · by_cases h1 : 24 < s.size
    · have HF := Lib.hid (nameB_long (l := s.data.toList) (.inr (by omega)))
      clear hlen
      go_enter Tryz.func72, Tryz.ntmps72
      go_wp2_with fail
      go_ret
      exact ⟨ret_bool HF.out.symm, Below.refl _ _⟩
    · obtain ⟨cap, C, m, hconv, hcap, hmax, hC, hm, hcell⟩ := bytes_of s w (by unfold maxLen; omega)
      have hc1 : ∀ i x, s.data.toList[i]? = some x → (w.drew.alloc (.cells C 5 m)).cell? ⟨w.heap.size, i, none⟩ = some (.int .u8 x.toNat) := fun i x hx => by
        obtain ⟨hk, rfl⟩ := List.getElem?_eq_some_iff.1 hx
        exact (cell?_alloc_mark' w.drew C 5 m i).trans (hcell i hk)
      obtain ⟨l, hl⟩ : ∃ l, l = s.data.toList := ⟨_, rfl⟩
      rw [← hl] at hlen hc1 ⊢
      have HN := Lib.hid hlen
      have b1 : Below w.heap.size w (w.drew.alloc (.cells C 5 m)) := ((Below.refl _ _).drew).alloc (Nat.le_refl _) _
      have h1' : s.size ≤ 24 := by omega
      clear hl hlen hcell hC hm
      go_enter Tryz.func72, Tryz.ntmps72
      go_wp2_with fail
      clear hconv
      go_loopw [17] (fun i wr => ∃ k : Nat, k ≤ s.size ∧ i = .int .i64 k ∧ Hid (∀ c ∈ l.take k, nameByte c = true) ∧
          Hid (∀ i x, l[i]? = some x → wr.cell? ⟨w.heap.size, i, none⟩ = some (.int .u8 x.toNat)) ∧ Below w.heap.size w wr) (fun i _ => s.size - (intOf i).toNat)
      case atStart => exact ⟨0, Nat.zero_le _, rfl, fun _ h => by simp at h, hc1, b1⟩
      case round =>
        clear hc1 b1
        obtain ⟨k, hk, rfl, HK, HCL, hbel⟩ := hrel
        by_cases hlt : k < s.size
        · obtain ⟨c, hx⟩ : ∃ c, l[k]? = some c := ⟨l[k]'(by have := HN.out; omega), List.getElem?_eq_getElem (by have := HN.out; omega)⟩
          have hcx := HCL.out k c hx
          have HX := Lib.hid hx; clear hx
          obtain ⟨n, hn, hn0, hn1, hcase⟩ := byteCase c
          rw [← hn] at hcx
          clear hn
          have HK1 : nameByte c = true → Hid (∀ x ∈ l.take (k + 1), nameByte x = true) := fun hg x hx => by
            rw [take_snoc? HX.out] at hx
            rcases List.mem_append.1 hx with h | h
            · exact HK.out x h
            · simp at h; rw [h]; exact hg
          rcases hcase with ⟨a1, a2, hg⟩ | ⟨a1, a2, hg⟩ | ⟨a1, a2, hg⟩ | ⟨rfl, hg⟩ | ⟨rfl, hg⟩ | ⟨rfl, hg⟩ | ⟨a1, a2, a3, a4, hg⟩
          case inr.inr.inr.inr.inr.inr =>
            have HB := Lib.hid (nameB_bad (mem_of_get? HX.out) hg)
            clear hg HK1
            rcases a1 with a1 | ⟨a1, a5⟩ | ⟨a1, a5⟩ | a1
            all_goals
              go_wp2_with fail
              all_goals first
                | (go_ret; exact ⟨ret_bool HB.out.symm, hbel⟩)
                | (rename_i h; exfalso; simp at h; omega)
                | (rename_i h _; exfalso; simp at h; omega)
          all_goals
            have HG := HK1 hg
            clear HK1 hg
            go_wp2_with fail
            go_roundw
            case rel => exact ⟨k + 1, by omega, by go_num, HG, HCL, hbel⟩
            case measure => simp [intOf]; omega
        · have HT : Hid (l.take k = l) := List.take_of_length_le (by rw [HN.out]; omega)
          have HB := Lib.hid (nameB_good (l := l) (by rw [HN.out]; omega) (by rw [HN.out]; omega) (by have := HK.out; rwa [HT.out] at this))
          go_wp2_with fail
          go_ret
          exact ⟨ret_bool HB.out.symm, hbel⟩
end Go.Proofs.YtogccnngdfancaaGreat
