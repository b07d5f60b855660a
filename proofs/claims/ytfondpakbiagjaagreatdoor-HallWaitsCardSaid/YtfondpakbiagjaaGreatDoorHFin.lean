/- The walks of the binary search of tyres, and of find. -/
import Derived.Test.YtfondpakbiagjaaGreatDoorHTyr
namespace Go.Proofs.YtfondpakbiagjaaGreatDoor
open Go.RowKit Go.Lib
set_option linter.unusedVariables false
set_option linter.unusedSimpArgs false
set_option maxRecDepth 100000
set_option maxHeartbeats 4000000
def SortT (T : List TyD) : Prop := ∀ (j k : Nat) p q, j ≤ k → T[j]? = some p → T[k]? = some q → p.id ≤ q.id
/-- Where an id is, or would be. -/
structure Pos (T : List TyD) (id : Int) (i : Nat) : Prop where
  le : i ≤ T.length
  lo : ∀ (k : Nat) p, k < i → T[k]? = some p → p.id < id
  hi : ∀ (k : Nat) p, i ≤ k → T[k]? = some p → id ≤ p.id
open Classical in
noncomputable def hasAt (T : List TyD) (id : Int) (i : Nat) : Bool := decide (∃ p, T[i]? = some p ∧ p.id = id)
theorem bsearch_any (v : Value) (T : List TyD) (id : Int) (w : World) (h : RdT w v T) (hs : SortT T) (hl : T.length ≤ 1000000) :
    Calls Tryz.prog 171 #[v, .int .i64 id, .func (.func 172) #[] #[]] w fun e w' => (∃ i : Nat, e = .returned (.tuple #[.int .i64 (i : Int), .bool (hasAt T id i)]) ∧ Pos T id i) ∧ Below w.heap.size w w' := by
  have HR := Lib.hid h
  obtain ⟨A, cap, rfl, -, hat⟩ := h.at
  have HA := Lib.hid hat
  have HS := Lib.hid hs
  obtain ⟨n, hn⟩ : ∃ n, n = T.length := ⟨_, rfl⟩
  have HN := Lib.hid hn
  rw [← hn] at hl HR ⊢
  clear h hat hs hn
  go_enter Tryz.func171, Tryz.ntmps171
  go_wp2_with fail
  go_loopw [9, 10, 11] (fun iv jv _ wr => ∃ (i j : Nat), i ≤ j ∧ j ≤ n ∧ iv = .int .i64 (i : Int) ∧ jv = .int .i64 (j : Int) ∧ Hid (∀ (k : Nat) p, k < i → T[k]? = some p → p.id < id) ∧ Hid (∀ (k : Nat) p, j ≤ k → T[k]? = some p → id ≤ p.id) ∧ Hid (Below w.heap.size w wr)) (fun iv jv _ _ => (intOf jv - intOf iv).toNat)
  case atStart => exact ⟨0, n, Nat.zero_le _, Nat.le_refl _, rfl, rfl, fun k p h => absurd h (Nat.not_lt_zero _), fun k p h1 h2 => absurd (List.getElem?_eq_some_iff.1 h2).1 (by have := HN.out; omega), Below.refl _ _⟩
  case round =>
    obtain ⟨i, j, hij, hjn, rfl, rfl, HLO, HHI, HBw⟩ := hrel
    by_cases hlt : i < j
    · obtain ⟨m, hm⟩ : ∃ m, m = (i + j) / 2 := ⟨_, rfl⟩
      have hmi : i ≤ m ∧ m < j := by omega
      obtain ⟨p, hp⟩ : ∃ p, T[m]? = some p := ⟨_, List.getElem?_eq_getElem (by have := HN.out; omega)⟩
      obtain ⟨b, off, rfl, hb, hrg⟩ := HA.out m p hp
      have hL : wr.rangeAt b (off + m * 18) (tyC p) := fun q v hv => (HBw.out.cell (p := ⟨b, off + m * 18 + q, none⟩) hb).trans (hrg q v hv)
      have hw1 : IntKind.i64.wrap ((i : Int) + (j : Int)) = (i : Int) + (j : Int) := IntWalk.i64_in _ (by omega)
      have hw2 : IntKind.u64.wrap ((i : Int) + (j : Int)) = (i : Int) + (j : Int) := IntWalk.u64_in _ (by omega)
      have hd : ((i : Int) + (j : Int)) / 2 = (m : Int) := by omega
      have hw3 : IntKind.i64.wrap (m : Int) = (m : Int) := IntWalk.i64_in _ (by omega)
      have hw4 : IntKind.u64.wrap (m : Int) = (m : Int) := IntWalk.u64_in _ (by omega)
      have HP := Lib.hid hp
      have HMI := Lib.hid hmi
      clear hm hp hb hrg hmi
      go_wp2_with (refine wpList_load_mid (by rfl) 184 _ (by rfl) b (off + m * 18) (by rfl) _ _ (by exact hL) Tryz.underlying184 rfl (by kernel_rfl) ?_)
      refine (find1_any p id wr).mono ?_
      rintro e w2 ⟨rfl, j2⟩
      replace HBw := kU HBw j2
      clear hL j2
      by_cases hc : p.id < id
      · have hcv : cmpI p.id id = -1 := if_pos hc
        have HLO1 : Hid (∀ (k : Nat) q, k < m + 1 → T[k]? = some q → q.id < id) := fun k q hk hq => by
          have := HS.out k m q p (by omega) hq HP.out; omega
        clear hc HLO
        rw [hcv]
        have hwm : IntKind.i64.wrap ((m : Int) + 1) = (m : Int) + 1 := IntWalk.i64_in _ (by have := HMI.out; omega)
        go_wp2_with fail
        go_roundw
        case rel => exact ⟨m + 1, j, by have := HMI.out; omega, hjn, by go_num, rfl, HLO1, HHI, HBw.out⟩
        case measure => have := HMI.out; simp [intOf]; omega
      · have hcv : ¬ cmpI p.id id < 0 := by unfold cmpI; rw [if_neg hc]; split <;> omega
        have HHI1 : Hid (∀ (k : Nat) q, m ≤ k → T[k]? = some q → id ≤ q.id) := fun k q hk hq => by
          have := HS.out m k p q hk HP.out hq; omega
        obtain ⟨cv, hcc⟩ : ∃ c, c = cmpI p.id id := ⟨_, rfl⟩
        rw [← hcc] at hcv ⊢
        clear hc HHI hcc
        go_wp2_with fail
        go_roundw
        case rel => exact ⟨i, m, HMI.out.1, by have := HMI.out; omega, rfl, rfl, HLO, HHI1, HBw.out⟩
        case measure => have := HMI.out; simp [intOf]; omega
    · obtain rfl : i = j := by omega
      have HPOS : Hid (Pos T id i) := ⟨by have := HN.out; omega, HLO.out, HHI.out⟩
      by_cases hin : i < n
      · obtain ⟨p, hp⟩ : ∃ p, T[i]? = some p := ⟨_, List.getElem?_eq_getElem (by have := HN.out; omega)⟩
        obtain ⟨b, off, rfl, hb, hrg⟩ := HA.out i p hp
        have hL : wr.rangeAt b (off + i * 18) (tyC p) := fun q v hv => (HBw.out.cell (p := ⟨b, off + i * 18 + q, none⟩) hb).trans (hrg q v hv)
        have HP := Lib.hid hp
        clear hp hb hrg HLO HHI
        go_wp2_with (refine wpList_load_midG (by rfl) 184 _ (by rfl) b (off + i * 18) (by rfl) _ _ (by exact hL) Tryz.underlying184 rfl (by kernel_rfl) ?_)
        refine (find1_any p id wr).mono ?_
        rintro e w2 ⟨rfl, j2⟩
        replace HBw := kU HBw j2
        clear hL j2
        by_cases hc : p.id = id
        · have hcv : cmpI p.id id = 0 := by unfold cmpI; rw [if_neg (by omega), if_neg (by omega)]
          have HH : Hid (hasAt T id i = true) := by show _ = _; unfold hasAt; exact decide_eq_true ⟨p, HP.out, hc⟩
          rw [hcv]
          clear hc
          go_wp2_with fail
          go_ret2
          exact ⟨⟨i, by rw [HH.out]; rfl, HPOS.out⟩, HBw.out⟩
        · have hcv : cmpI p.id id ≠ 0 := by unfold cmpI; split; omega; split <;> omega
          have HH : Hid (hasAt T id i = false) := by show _ = _; unfold hasAt; refine decide_eq_false ?_; rintro ⟨q, hq, hq2⟩; rw [HP.out] at hq; injection hq with hq; exact hc (hq ▸ hq2)
          obtain ⟨cv, hcc⟩ : ∃ c, c = cmpI p.id id := ⟨_, rfl⟩
          rw [← hcc] at hcv ⊢
          have hcb : (cv == 0) = false := beq_false_of_ne hcv
          clear hc hcc
          go_wp2_with fail
          go_ret2
          exact ⟨⟨i, by rw [HH.out]; rfl, HPOS.out⟩, HBw.out⟩
      · have HH : Hid (hasAt T id i = false) := by
          show _ = _; unfold hasAt; refine decide_eq_false ?_; rintro ⟨q, hq, -⟩
          have := (List.getElem?_eq_some_iff.1 hq).1; have := HN.out; omega
        clear HLO HHI
        go_wp2_with fail
        go_ret2
        exact ⟨⟨i, by rw [HH.out]; rfl, HPOS.out⟩, HBw.out⟩
/-- A hall in memory: its tyres, its journal. -/
structure HallIs (w : World) (hb : Nat) (tv jv : Value) (T : List TyD) (J : List Int) : Prop where
  blk : w.heap[hb]? = some (.cells #[.slice none 0 0, tv, jv] 121 (0, 0))
  ty : RdT w tv T
  jo : OwnB w (hb + 1) jv J
  tn : ∀ ad n c, tv = .slice (some ad) n c → hb < ad.block
  sep : T ≠ [] → ∀ ad n c k, tv = .slice (some ad) n c → jv.ownBlock = some k → ad.block ≠ k
theorem find_any (hb : Nat) (tv jv : Value) (T : List TyD) (J : List Int) (id : Int) (w : World) (h : HallIs w hb tv jv T J) (hs : SortT T) (hl : T.length ≤ 1000000) :
    Calls Tryz.prog 126 #[.pointer (some ⟨hb, 0, none⟩), .int .i64 id] w fun e w' => (∃ i : Nat, e = .returned (.tuple #[.int .i64 (i : Int), .bool (hasAt T id i)]) ∧ Pos T id i) ∧ Below w.heap.size w w' := by
  have HBS := Lib.hid (bsearch_any tv T id w h.ty hs hl)
  have hb1 := kC (cs := [.slice none 0 0, tv, jv]) (Lib.hid h.blk) 1 rfl
  obtain ⟨A, cap, rfl, -⟩ := h.ty.at
  obtain ⟨A', cap', e, -⟩ := h.ty.at
  clear h hs hl e
  go_enter Tryz.func126, Tryz.ntmps126
  go_wp2_with fail
  refine HBS.out.mono ?_
  rintro e w2 ⟨⟨i, rfl, hp⟩, j2⟩
  obtain ⟨b, hbb⟩ : ∃ b, b = hasAt T id i := ⟨_, rfl⟩
  rw [← hbb]
  have HP := Lib.hid hp
  have HJ := Lib.hid j2
  have HB := Lib.hid hbb
  clear hp j2 hbb HBS hb1
  go_wp2_with fail
  go_ret2
  exact ⟨⟨i, by rw [← HB.out]; rfl, HP.out⟩, HJ.out⟩
end Go.Proofs.YtfondpakbiagjaaGreatDoor
