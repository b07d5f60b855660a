/- Rows of ints: same, the reference's remove. Taking the first of equals out of a row of ints: the reference's remove; the shelf's Index and Delete. Index and Delete of a row of ints of one's own, off the shelf. -/
import Derived.Test.YtfondpakbiagjaaGreatDoorHCsA
import Derived.Test.YtfondpakbiagjaaGreatDoorHFre
namespace Go.Proofs.YtfondpakbiagjaaGreatDoor
open Go.RowKit
set_option linter.unusedVariables false
set_option linter.unusedSimpArgs false
set_option maxRecDepth 100000
set_option maxHeartbeats 4000000
/-- A row of ints of one's own. -/
def OwnI (w : World) (B : Nat) (v : Value) (xs : List Int) : Prop := w.ownsRow B 3 1 v xs.length (xs.map intV)
theorem OwnI.slice {w : World} {B : Nat} {v : Value} {xs : List Int} (h : OwnI w B v xs) : ∃ A c, v = .slice A xs.length c := ownsRow_slice h
theorem OwnI.nil (w : World) (B : Nat) : OwnI w B (.slice none 0 0) [] := World.ownsRow_nil w B 3 1
theorem OwnI.rd {w : World} {B : Nat} {v : Value} {xs : List Int} (h : OwnI w B v xs) : Rd (Value.int .i64) w (fun _ => True) v xs := (Rd.of_own (f := Value.int .i64) (xs := xs) h).mono fun _ _ => trivial
theorem OwnI.stay {w w' : World} {B : Nat} {v : Value} {xs : List Int} (h : OwnI w B v xs) (hb : Below w.heap.size w w') : OwnI w' B v xs :=
  World.ownsRow.kept h ⟨hb.os, hb.tape, hb.output, hb.size, fun k hk _ => hb.block k hk⟩ (Classical.em _)
theorem OwnI.kept {w w' : World} {B : Nat} {v : Value} {xs : List Int} {row : Option Nat} (h : OwnI w B v xs) (hg : w.grownBy w' row) (hn : v.ownBlock = none ∨ v.ownBlock ≠ row) : OwnI w' B v xs := World.ownsRow.kept h hg hn
theorem OwnI.mono {w : World} {B C : Nat} {v : Value} {xs : List Int} (h : OwnI w B v xs) (hb : C ≤ B) : OwnI w C v xs := by
  rcases h with ⟨h1, h2 | ⟨g, c, cs, h2, h3, h4⟩⟩
  · exact ⟨h1, .inl h2⟩
  · exact ⟨h1, .inr ⟨g, c, cs, h2, Nat.le_trans hb h3, h4⟩⟩
/-- The row grows by an int, in a plain region. -/
theorem wpList_pushI {w w1 : World} {ops : Array Oper} {rest : List Oper} {o : Oper} {a : Act} {Q : Exit → Act → World → Prop} {B : Nat} {v : Value} {xs : List Int} {z : Int} {n : Nat} (hgd : o.guard = none) (s y : Operand)
    (ho : o.op = .call { callee := .builtin .append, args := #[s, y], argTypes := #[31, 31] }) (hs : a.eval s = v) (hw : w = w1.alloc (.cells #[.int .i64 z] 3)) {p c : Nat} (hp : p = w1.heap.size) (hy : a.eval y = .slice (some ⟨p, 0, none⟩) 1 c)
    (hn : xs.length = n) (hown : OwnI w1 B v xs) (hl : n ≤ 100000) (hB : B ≤ w1.heap.size)
    (h : ∀ A c w', OwnI w' B (.slice A (n + 1) c) (xs ++ [z]) → Gr w1 w' v (.slice A (n + 1) c) → wpList Tryz.prog ops Q rest (a.put o.dst (.slice A (n + 1) c)) w') : wpList Tryz.prog ops Q (o :: rest) a w := by
  subst hw hp hn
  obtain ⟨i0, hi0, hz0, hz1, hz2⟩ := info_parts info3
  have hown1 := World.ownsRow.alloc hown (.cells #[.int .i64 z] 3)
  refine wpList_append_fresh hgd s y 31 ho B 3 i0 (.int .i64 0) 1 8 Tryz.underlying31 hi0 hz0 hz1 hz2 rfl (by decide) v xs.length (xs.map intV) hs hown1 ⟨w1.heap.size, 0, none⟩ 1 c [.int .i64 z] hy rfl
    (cells_new w1 #[.int .i64 z] 3 (0, 0)) (fun u hu => by rw [List.mem_singleton.1 hu]; rfl) (by unfold maxLen; omega) (by omega) (by simp; omega) fun v' w' h2 h3 h4 => ?_
  obtain ⟨A, c', rfl⟩ := ownsRow_slice h2
  refine h A c' w' (by unfold OwnI; rw [List.length_append, List.map_append]; exact h2) (Gr.alloc (o := .cells #[.int .i64 z] 3) ⟨h3, h4⟩)
theorem same_yes (v1 v2 : Value) (xs : List Int) (S T : Nat → Prop) (w : World) (h1 : Rd (Value.int .i64) w S v1 xs) (h2 : Rd (Value.int .i64) w T v2 xs) :
    Calls Tryz.prog 11 #[v1, v2] w fun e w' => e = .returned (.bool true) ∧ Below w.heap.size w w' := by
  obtain ⟨A, n, cap, rfl, hnl, hcap, hmax, hc⟩ := h1.lt.open_
  obtain ⟨A2, n2, cap2, rfl, hnl2, hcap2, hmax2, hc2⟩ := h2.lt.open_
  obtain rfl : n2 = n := by omega
  have HN := Lib.hid hnl
  have HC := Lib.hid hc
  have HC2 := Lib.hid hc2
  clear hnl hnl2 hc hc2 h1 h2
  go_enter Tryz.func11, Tryz.ntmps11
  go_wp2_with fail
  go_loopw [13] (fun iv wr => ∃ i : Nat, i ≤ n2 ∧ iv = .int .i64 (i : Int) ∧ Hid (Below w.heap.size w wr)) (fun iv _ => n2 - (RowKit.intOf iv).toNat)
  case atStart => exact ⟨0, Nat.zero_le _, rfl, Below.refl _ _⟩
  case round =>
    obtain ⟨i, hi, rfl, HW⟩ := hrel
    by_cases hlt : i < n2
    · obtain ⟨b, off, p, rfl, ⟨-, hbw⟩, hp, hcell⟩ := HC.out i hlt
      obtain ⟨b2, off2, p2, rfl, ⟨-, hbw2⟩, hp2, hcell2⟩ := HC2.out i hlt
      obtain rfl : p2 = p := by rw [hp] at hp2; injection hp2 with e; exact e.symm
      have hii : (i : Int) < (n2 : Int) := by omega
      have hi0 : (0 : Int) ≤ (i : Int) := by omega
      have hwi : IntKind.i64.wrap ((i : Int) + 1) = (i : Int) + 1 := IntWalk.i64_in _ (by omega)
      have c1 := (HW.out.cell (p := ⟨b, off + i, none⟩) hbw).trans hcell
      have c2 := (HW.out.cell (p := ⟨b2, off2 + i, none⟩) hbw2).trans hcell2
      have HWd : Hid (Below w.heap.size w wr.drew) := HW.out.drew
      clear hp hp2 hcell hcell2 hbw hbw2
      go_wp2_with fail
      refine seq_start (S := fun w' => w'.cell? ⟨b, off + i, none⟩ = some (.int .i64 p2) ∧ w'.cell? ⟨b2, off2 + i, none⟩ = some (.int .i64 p2)) (by kernel_rfl) (by kernel_rfl) (by exact ⟨c1, c2⟩) ?_
      repeat (first | refine tk0 (h := ?_) | refine tkG (h := ?_) | refine skG (h := ?_))
      refine seq_done (by kernel_rfl) ?_
      go_wp2_with fail
      go_roundw
      case rel => exact ⟨i + 1, by omega, by go_num, HWd.out⟩
      case measure => simp [RowKit.intOf]; omega
    · obtain rfl : i = n2 := by omega
      have hii : ¬ (i : Int) < (i : Int) := by omega
      go_wp2_with fail
      go_ret
      exact ⟨rfl, HW.out⟩
end Go.Proofs.YtfondpakbiagjaaGreatDoor
namespace Go.Proofs.YtfondpakbiagjaaGreatDoor
open Go.RowKit
set_option linter.unusedVariables false
set_option linter.unusedSimpArgs false
set_option maxRecDepth 100000
set_option maxHeartbeats 4000000
def rmv : List Int → Int → Option (List Int)
  | [], _ => none
  | z :: r, x => if z = x then some r else (rmv r x).map (z :: ·)
theorem rmv_at {x : Int} : ∀ {l : List Int} {i : Nat}, l[i]? = some x → (∀ j, j < i → l[j]? ≠ some x) → rmv l x = some (l.take i ++ l.drop (i + 1))
  | [], i, h, _ => by simp at h
  | z :: r, 0, h, _ => by simp at h; subst h; simp [rmv]
  | z :: r, i + 1, h, hn => by
    have h0 : z ≠ x := fun e => hn 0 (by omega) (by simp [e])
    have := rmv_at (l := r) (i := i) (by simpa using h) (fun j hj => by have := hn (j + 1) (by omega); simpa using this)
    simp [rmv, h0, this]
theorem rmv_no {x : Int} : ∀ {l : List Int}, (∀ (j : Nat), l[j]? ≠ some x) → rmv l x = none
  | [], _ => rfl
  | z :: r, h => by
    have h0 : z ≠ x := fun e => h 0 (by simp [e])
    have := rmv_no (l := r) (fun j => by have := h (j + 1); simpa using this)
    simp [rmv, h0, this]
theorem rremove_any (v : Value) (l : List Int) (x : Int) (w : World) (T : Nat → Prop) (hv : Rd (Value.int .i64) w T v l) (hl : l.length ≤ 1000) :
    Calls Tryz.prog 50 #[v, .int .i64 x] w fun e w' => (∃ l', rmv l x = some l' ∧ ∃ v', e = .returned (.tuple #[v', .bool true]) ∧ OwnI w' w.heap.size v' l' ∧ Below w.heap.size w w') ∨ (rmv l x = none ∧ e = .returned (.tuple #[v, .bool false]) ∧ w' = w) := by
  obtain ⟨A, n, cap, rfl, hnl, hcap, hmax, hc⟩ := hv.lt.open_
  have HN := Lib.hid hnl
  have HC := Lib.hid hc
  have hn1 : n ≤ 1000 := by omega
  clear hnl hc hv hl
  go_enter Tryz.func50, Tryz.ntmps50
  go_wp2_with fail
  go_loopw [6] (fun iv wr => ∃ i : Nat, i ≤ n ∧ iv = .int .i64 (i : Int) ∧ Hid (∀ j, j < i → l[j]? ≠ some x) ∧ wr = w) (fun iv _ => n - (RowKit.intOf iv).toNat)
  case atStart => exact ⟨0, Nat.zero_le _, rfl, fun j h => absurd h (Nat.not_lt_zero _), rfl⟩
  case round =>
    obtain ⟨i, hi, rfl, HI, hw⟩ := hrel
    obtain rfl := hw.symm
    clear hw
    by_cases hlt : i < n
    · obtain ⟨b, off, p, rfl, ⟨-, hbw⟩, hp, hcell⟩ := HC.out i hlt
      have HP := Lib.hid hp
      have hii : (i : Int) < (n : Int) := by omega
      have hi0 : (0 : Int) ≤ (i : Int) := by omega
      have hwi : IntKind.i64.wrap ((i : Int) + 1) = (i : Int) + 1 := IntWalk.i64_in _ (by omega)
      have hin : ¬ (n : Int) < (i : Int) := by omega
      have hic : i ≤ cap := by omega
      by_cases hpx : p = x
      · have HR := Lib.hid (rmv_at (by rw [← hpx]; exact hp) HI.out)
        have HCC : Hid (∀ (k : Nat) u, l[k]? = some u → ∀ W', Below w.heap.size w W' → W'.cell? ⟨b, off + k, none⟩ = some (.int .i64 u)) := fun k u hu W' hW' => by
          obtain ⟨b', off', q, hbo, ⟨-, hb'⟩, hq, hcq⟩ := HC.out k (by have := (List.getElem?_eq_some_iff.1 hu).1; have := HN.out; omega)
          injection hbo with hbo
          injection hbo with hb1 hb2
          subst hb1 hb2
          obtain rfl : q = u := by rw [hq] at hu; injection hu
          exact (hW'.cell (p := ⟨b, off + k, none⟩) hb').trans hcq
        have h1c : i + 1 ≤ cap := by omega
        have h1n : ¬ (n : Int) < (i : Int) + 1 := by omega
        have h10 : (0 : Int) ≤ (i : Int) + 1 := by omega
        subst hpx
        clear hp HI
        go_wp2_with fail
        have HG : Hid (Fr w w.drew 3 1 none []) := (Fr.start w _ _).grow (Below.refl _ _).drew
        have HS : Hid (∀ W', Below w.heap.size w W' → (fun _ : World => True) W') := fun _ _ => trivial
        refine seq_start (S := fun _ => True) (by kernel_rfl) (by kernel_rfl) trivial ?_
        repeat (refine seq_swap ?_; first | refine tk0 (h := ?_) | refine tkG (h := ?_) | refine skG (h := ?_))
        refine plq 2 (h := ?_)
        repeat (first | refine tk0 (h := ?_) | refine tkG (h := ?_) | refine skG (h := ?_))
        refine plq 2 (h := ?_)
        repeat (first | refine tk0 (h := ?_) | refine tkG (h := ?_) | refine skG (h := ?_))
        refine plq 2 (h := ?_)
        repeat (first | refine tk0 (h := ?_) | refine tkG (h := ?_) | refine skG (h := ?_))
        refine plq 2 (h := ?_)
        repeat (first | refine tk0 (h := ?_) | refine tkG (h := ?_) | refine skG (h := ?_))
        refine sop (h := fun K9 hK9 => ?_)
        go_simp
        refine ckB hK9 HG HS.out (h := fun V1 jb HG => ?_)
        clear hK9 K9
        obtain ⟨o2, ho2, HO2⟩ : ∃ o2, (if cap = i + 1 then some (⟨b, off, none⟩ : Addr) else some ⟨b, off + (i + 1), none⟩) = some ⟨b, o2, none⟩ ∧ Hid (∀ (j : Nat) z, (l.drop (i + 1))[j]? = some z → o2 = off + (i + 1)) := by
          split
          · rename_i hq
            exact ⟨off, rfl, fun j z hz => by rw [List.getElem?_drop] at hz; have := (List.getElem?_eq_some_iff.1 hz).1; have := HN.out; omega⟩
          · exact ⟨_, rfl, fun _ _ _ => rfl⟩
        rw [ho2]
        clear ho2
        have HL1 : Hid ((l.take i).length = i) := by show _ = _; rw [List.length_take, HN.out]; omega
        have HL2 : Hid ((l.drop (i + 1)).length = n - (i + 1)) := by show _ = _; rw [List.length_drop, HN.out]
        refine sop (h := fun K9 hK9 => ?_)
        refine opI rfl hK9 HG HS.out ⟨b, off, none⟩ i _ (l.take i) HL1.out (fun j u hu => by
          rw [List.getElem?_map] at hu
          obtain ⟨z, hz, rfl⟩ := Option.map_eq_some_iff.1 hu
          rw [addr_add]
          have hj := (List.getElem?_eq_some_iff.1 hz).1
          rw [List.getElem?_take_of_lt (by have := HL1.out; omega)] at hz
          exact HCC.out j z hz _ HG.out.bel) i (Nat.zero_add i) (by omega) _ _ (h := fun A1 k1 V2 HG => ?_)
        clear hK9 K9
        refine nrm (h := ?_)
        refine sop (h := fun K9 hK9 => ?_)
        refine opI rfl hK9 HG HS.out ⟨b, o2, none⟩ (n - (i + 1)) _ (l.drop (i + 1)) HL2.out (fun j u hu => by
          rw [List.getElem?_map] at hu
          obtain ⟨z, hz, rfl⟩ := Option.map_eq_some_iff.1 hu
          rw [addr_add, HO2.out j z hz, Nat.add_assoc]
          rw [List.getElem?_drop] at hz
          exact HCC.out _ z hz _ HG.out.bel) (n - 1) (by omega) (by omega) _ _ (h := fun A1 k1 V3 HG => ?_)
        clear hK9 K9
        refine nrm (h := ?_)
        repeat (first | refine tk0 (h := ?_) | refine tkG (h := ?_) | refine skG (h := ?_))
        refine seq_done (by kernel_rfl) ?_
        go_wp2_with fail
        go_ret2
        refine .inl ⟨_, HR.out, _, rfl, ?_, HG.out.bel⟩
        have h5 := HG.out.row _ _ _ rfl
        unfold OwnI
        rw [List.map_append, List.length_append, HL1.out, HL2.out, show i + (n - (i + 1)) = n - 1 by omega]
        simpa using h5
      · have HI1 : Hid (∀ j, j < i + 1 → l[j]? ≠ some x) := fun j hj => by
          rcases Nat.lt_or_ge j i with h | h
          · exact HI.out j h
          · obtain rfl : j = i := by omega
            rw [HP.out]; intro e; injection e with e; exact hpx e
        clear hp
        go_wp2_with fail
        go_roundw
        case rel => exact ⟨i + 1, by omega, by go_num, HI1.out, trivial⟩
        case measure => simp [RowKit.intOf]; omega
    · obtain rfl : i = n := by omega
      have HR : Hid (rmv l x = none) := rmv_no fun j h => HI.out j (by have := (List.getElem?_eq_some_iff.1 h).1; have := HN.out; omega) h
      have hii : ¬ (i : Int) < (i : Int) := by omega
      go_wp2_with fail
      go_ret2
      exact .inr ⟨HR.out, rfl, rfl⟩
end Go.Proofs.YtfondpakbiagjaaGreatDoor
namespace Go.Proofs.YtfondpakbiagjaaGreatDoor
open Go.RowKit
set_option linter.unusedVariables false
set_option linter.unusedSimpArgs false
set_option maxRecDepth 100000
set_option maxHeartbeats 4000000
theorem OwnI.form {w : World} {B : Nat} {v : Value} {xs : List Int} (h : OwnI w B v xs) (hx : xs ≠ []) : ∃ g cap cur, v = .slice (some ⟨g, 0, none⟩) xs.length cap ∧ B ≤ g ∧ w.heap[g]? = some (.cells cur 3 (0, 0)) ∧ xs.length ≤ cap ∧ cap ≤ maxLen ∧ cur.size = cap ∧ cur.toList.take xs.length = xs.map intV := by
  rcases h with ⟨h1, ⟨rfl, h2⟩ | ⟨g, cap, cur, h2, h3, h4, h5, h6, h7, h8⟩⟩
  · exact absurd (List.length_eq_zero_iff.1 h2) hx
  · rw [Nat.mul_one] at h7 h8
    exact ⟨g, cap, cur, h2, h3, h4, h5, h6, h7, h8⟩
theorem getD_of {xs : List Int} {j : Nat} {z : Int} (h : xs[j]? = some z) : xs.getD j 0 = z := by
  rw [List.getD_eq_getElem?_getD, h]; rfl
theorem least {P : Nat → Prop} (n : Nat) (h : P n) : ∃ i, P i ∧ ∀ j, j < i → ¬ P j := by
  induction n using Nat.strongRecOn with
  | _ n ih =>
    by_cases hx : ∃ j, j < n ∧ P j
    · obtain ⟨j, hj, hp⟩ := hx
      exact ih j hj hp
    · exact ⟨n, h, fun j hj hp => hx ⟨j, hj, hp⟩⟩
theorem sets_keep {b k : Nat} (hne : k ≠ b) : ∀ {vs : List Value} {o : Nat} {w : World}, (setsW w b o vs).heap[k]? = w.heap[k]?
  | [], _, _ => rfl
  | v :: vs, o, w => (sets_keep hne (vs := vs)).trans (Below.heap_setCell w ⟨b, o, none⟩ v k hne)
theorem index_own {w : World} {B : Nat} {v : Value} {xs : List Int} (x : Int) (h : OwnI w B v xs) (hl : xs.length ≤ 1000) :
    Calls Tryz.prog 73 #[v, .int .i64 x] w fun e w' => ((∃ i : Nat, e = .returned (.int .i64 (i : Int)) ∧ xs[i]? = some x ∧ rmv xs x = some (xs.take i ++ xs.drop (i + 1))) ∨ (e = .returned (.int .i64 (-1)) ∧ rmv xs x = none)) ∧ w' = w := by
  by_cases hx : xs = []
  · subst hx
    obtain ⟨A, c, rfl⟩ := h.slice
    refine (Tryz.slices_Index_int_empty A c x w).mono ?_
    rintro e w' ⟨rfl, hw⟩
    exact ⟨.inr ⟨rfl, rfl⟩, hw⟩
  · obtain ⟨g, cap, cur, rfl, hB, hb, hc, hm, hs, ht⟩ := h.form hx
    have hcell : ∀ j, j < xs.length → w.cell? ⟨g, 0 + j, none⟩ = some (.int .i64 (xs.getD j 0)) := fun j hj => by
      rw [Nat.zero_add, blk_cell hb, ← Array.getElem?_toList]
      have h1 : (cur.toList.take xs.length)[j]? = (xs.map intV)[j]? := by rw [ht]
      rw [List.getElem?_take_of_lt hj, List.getElem?_map, List.getElem?_eq_getElem hj] at h1
      rw [h1, getD_of (List.getElem?_eq_getElem hj)]; rfl
    refine (Tryz.slices_Index_int g 0 xs.length cap xs x w (Nat.le_refl _) (by omega) hcell).mono ?_
    rintro e w' ⟨rfl, hw⟩
    refine ⟨?_, hw⟩
    by_cases hin : ∃ j : Nat, xs[j]? = some x
    · have hdec : ∃ i : Nat, xs[i]? = some x ∧ ∀ j, j < i → xs[j]? ≠ some x := by
        obtain ⟨j, hj⟩ := hin
        exact least j hj
      obtain ⟨i, hi, hmin⟩ := hdec
      have hil := (List.getElem?_eq_some_iff.1 hi).1
      have := Lib.idxOf_hit xs xs.length i x hil (Nat.le_refl _) (getD_of hi) (fun j hj e => hmin j hj (by rw [List.getElem?_eq_getElem (by omega), ← e, getD_of (List.getElem?_eq_getElem (by omega))]))
      rw [this]
      exact .inl ⟨i, rfl, hi, rmv_at hi hmin⟩
    · have hno : ∀ j : Nat, xs[j]? ≠ some x := fun j e => hin ⟨j, e⟩
      have := Lib.idxOf_miss xs xs.length x (fun j hj e => hno j (by rw [List.getElem?_eq_getElem hj, ← e, getD_of (List.getElem?_eq_getElem hj)]))
      rw [this]
      exact .inr ⟨rfl, rmv_no hno⟩
theorem delete_own {w : World} {B : Nat} {v : Value} {xs : List Int} {i : Nat} (h : OwnI w B v xs) (hi : i < xs.length) (hl : xs.length ≤ 1000) :
    Calls Tryz.prog 76 #[v, .int .i64 (i : Int), .int .i64 ((i : Int) + 1)] w fun e w' => ∃ v', e = .returned v' ∧ OwnI w' B v' (xs.take i ++ xs.drop (i + 1)) ∧ w.grownBy w' v.ownBlock ∧ v'.ownBlock = v.ownBlock := by
  obtain ⟨g, cap, cur, rfl, hB, hb, hc, hm, hs, ht⟩ := h.form (fun e => by rw [e] at hi; simp at hi)
  have hcell : ∀ j, j < xs.length → w.cell? ⟨g, 0 + j, none⟩ = some (.int .i64 (xs.getD j 0)) := fun j hj => by
    rw [Nat.zero_add, blk_cell hb, ← Array.getElem?_toList]
    have h1 : (cur.toList.take xs.length)[j]? = (xs.map intV)[j]? := by rw [ht]
    rw [List.getElem?_take_of_lt hj, List.getElem?_map, List.getElem?_eq_getElem hj] at h1
    rw [h1, getD_of (List.getElem?_eq_getElem hj)]; rfl
  have hD := Tryz.slices_Delete_int_cells g 0 xs.length cap i (i + 1) xs w (Nat.le_refl _) hc (by unfold maxLen at hm; omega) (by omega) (by omega) hcell (fun j _ => blk_free hb _)
  rw [show ((i + 1 : Nat) : Int) = (i : Int) + 1 by omega] at hD
  refine hD.mono ?_
  rintro e w' ⟨rfl, q, hw⟩
  have e1 : i + 1 - i = 1 := by omega
  rw [e1, List.take_length] at hw
  have hb2 : (w.drewN q).heap[g]? = some (.cells cur 3 (0, 0)) := hb
  obtain ⟨vs, hvs⟩ : ∃ vs, vs = (xs.take i ++ xs.drop (i + 1) ++ List.replicate 1 0).map (Value.int .i64) := ⟨_, rfl⟩
  rw [← hvs] at hw
  have hvl : vs.length = xs.length := by rw [hvs]; simp; omega
  have hsz : cur.toList.length = cap := by rw [Array.length_toList]; exact hs
  have hS : w' = setsW (w.drewN q) g 0 vs := by rw [hw]; exact setCells_sets _ _ _ _
  have hbn : w'.heap[g]? = some (.cells ([] ++ vs ++ cur.toList.drop xs.length).toArray 3 (0, 0)) := by
    rw [hS]
    refine sets_blk (p := []) (q := cur.toList.take xs.length) ?_ (by rw [List.length_take, hvl]; omega)
    rw [List.nil_append, List.take_append_drop, Array.toArray_toList]; exact hb2
  refine ⟨_, rfl, ⟨by simp, .inr ⟨g, cap, _, ?_, hB, hbn, by simp; omega, hm, ?_, ?_⟩⟩, ?_, rfl⟩
  · rw [e1]
    congr 1
    simp; omega
  · simp; omega
  · rw [List.toList_toArray, List.nil_append, Nat.mul_one, List.take_append_of_le_length (by simp [hvl]; omega), hvs]
    rw [List.map_append, List.take_append_of_le_length (by simp)]
    exact List.take_of_length_le (by simp)
  · subst hS
    have hb3 := sets_below (b := g) (B := g) (w := w.drewN q) (Nat.le_refl _) (vs := vs) (o := 0) (Below.refl _ (w.drewN q))
    exact ⟨hb3.os, hb3.tape, hb3.output, hb3.size, fun k hk hne => sets_keep (w := w.drewN q) (fun e => hne (by rw [e]; rfl))⟩
end Go.Proofs.YtfondpakbiagjaaGreatDoor
