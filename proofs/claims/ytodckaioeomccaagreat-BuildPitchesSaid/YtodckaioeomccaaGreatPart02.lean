/- Words for memory: which blocks a world keeps, and slices that read as lists. More words for memory: slices as sources of an append, slices of slices, items. The walks of slices.IndexFunc and slices.ContainsFunc over a function value of which a contract is known. Plain laws: sums around a circle; autocorrelations. Natural numbers as lists of digits. Plain laws of division digit by digit: a quotient that is guessed from the top words. Plain: the numbers a + b r2 + c r3 + e r6 with fractions a, b, c, e; complex numbers of them; the 24 directions. Plain: orders of the beginnings of pitches; turning a sequence by its first pitch. Plain law: the next arrangement of a list is the least one behind it. The next arrangement, by places. Plain: how places of splices are searched. Plain laws of decimal digits. Slices whose elements take several cells each, read as lists. -/
import Derived.Test.YtodckaioeomccaaGreatProg
import Derived.KernelRfl
import Derived.WalkKit
import Derived.WalkSpells
import Derived.WalkLawsBesides
import Derived.Lib.Hide
import Derived.RowKit
namespace Go.Proofs.YtodckaioeomccaaGreat
open Go.RowKit
theorem h0d {p : Prop} (h : p) : Hid p := Lib.hid h
structure Keep (S : Nat → Prop) (w w' : World) : Prop where
 os : w'.os = w.os
 tape : w'.tape = w.tape
 output : w'.output = w.output
 size : w.heap.size ≤ w'.heap.size
 block : ∀ k, S k → w'.heap[k]? = w.heap[k]?
theorem Keep.refl (S : Nat → Prop) (w : World) : Keep S w w := ⟨rfl, rfl, rfl, Nat.le_refl _, fun _ _ => rfl⟩
theorem Keep.trans {S : Nat → Prop} {a b c : World} (h : Keep S a b) (k : Keep S b c) : Keep S a c :=
 ⟨k.os.trans h.os, k.tape.trans h.tape, k.output.trans h.output, Nat.le_trans h.size k.size, fun i hi => (k.block i hi).trans (h.block i hi)⟩
theorem Keep.mono {S S' : Nat → Prop} {w w' : World} (h : Keep S w w') (hs : ∀ k, S' k → S k) : Keep S' w w' :=
 ⟨h.os, h.tape, h.output, h.size, fun k hk => h.block k (hs k hk)⟩
theorem Keep.of_below {B : Nat} {w w' : World} (h : Below B w w') : Keep (· < B) w w' := ⟨h.os, h.tape, h.output, h.size, h.block⟩
theorem Keep.cell {S : Nat → Prop} {w w' : World} (h : Keep S w w') {p : Addr} (hp : S p.block) : w'.cell? p = w.cell? p := World.cell?_of_block (w := w) (h.block p.block hp)
theorem Keep.alloc {S : Nat → Prop} {a w : World} (h : Keep S a w) (hS : ∀ k, S k → k < w.heap.size) (o : Obj) : Keep S a (w.alloc o) :=
 ⟨h.os, h.tape, h.output, by have := h.size; simp; omega, fun k hk => by rw [Below.heap_alloc w o k (hS k hk)]; exact h.block k hk⟩
theorem Keep.setCell {S : Nat → Prop} {a w : World} (h : Keep S a w) {p : Addr} (hp : ¬ S p.block) (u : Value) : Keep S a (w.setCell p u) :=
 ⟨h.os, h.tape, h.output, by have := h.size; simp; omega, fun k hk => by rw [Below.heap_setCell w p u k (fun e => hp (e ▸ hk))]; exact h.block k hk⟩
def Rd {α : Type} (f : α → Value) (w : World) (S : Nat → Prop) (v : Value) (xs : List α) : Prop :=
 ∃ A cap, v = .slice A xs.length cap ∧ xs.length ≤ cap ∧ cap ≤ maxLen ∧
  (xs ≠ [] → ∃ b off, A = some ⟨b, off, none⟩ ∧ S b ∧ ∀ i (h : i < xs.length), w.cell? ⟨b, off + i, none⟩ = some (f xs[i]))
theorem Rd.keep {α : Type} {f : α → Value} {w w' : World} {S : Nat → Prop} {v : Value} {xs : List α} (h : Rd f w S v xs) (hk : Keep S w w') : Rd f w' S v xs := by
 obtain ⟨A, cap, rfl, h1, h2, h3⟩ := h
 refine ⟨A, cap, rfl, h1, h2, fun hn => ?_⟩
 obtain ⟨b, off, rfl, hb, hc⟩ := h3 hn
 exact ⟨b, off, rfl, hb, fun i hi => (hk.cell (p := ⟨b, off + i, none⟩) hb).trans (hc i hi)⟩
theorem Rd.mono {α : Type} {f : α → Value} {w : World} {S S' : Nat → Prop} {v : Value} {xs : List α} (h : Rd f w S v xs) (hs : ∀ k, S k → S' k) : Rd f w S' v xs := by
 obtain ⟨A, cap, rfl, h1, h2, h3⟩ := h
 refine ⟨A, cap, rfl, h1, h2, fun hn => ?_⟩
 obtain ⟨b, off, rfl, hb, hc⟩ := h3 hn
 exact ⟨b, off, rfl, hs b hb, hc⟩
theorem Rd.open_ {α : Type} {f : α → Value} {w : World} {S : Nat → Prop} {v : Value} {xs : List α} (h : Rd f w S v xs) :
  ∃ A n cap, v = .slice A n cap ∧ xs.length = n ∧ n ≤ cap ∧ n ≤ 9223372036854775807 ∧
   (∀ k, k < n → ∃ b off x, A = some ⟨b, off, none⟩ ∧ S b ∧ xs[k]? = some x ∧ w.cell? ⟨b, off + k, none⟩ = some (f x)) := by
 obtain ⟨A, cap, rfl, h1, h2, h3⟩ := h
 refine ⟨A, xs.length, cap, rfl, rfl, h1, by unfold maxLen at h2; omega, fun k hk => ?_⟩
 obtain ⟨b, off, rfl, hb, hc⟩ := h3 (fun e => by subst e; simp at hk)
 exact ⟨b, off, xs[k], rfl, hb, List.getElem?_eq_getElem hk, hc k hk⟩
theorem ret_int {k : IntKind} {a b : Int} (h : a = b) : Ending.returned (.int k a) = .returned (.int k b) := by rw [h]
theorem ret_bool {a b : Bool} (h : a = b) : Ending.returned (.bool a) = .returned (.bool b) := by rw [h]
theorem val_int {k : IntKind} {a b : Int} (h : a = b) : Value.int k a = .int k b := by rw [h]
theorem take_snoc? {α : Type} {xs : List α} {k : Nat} {x : α} (h : xs[k]? = some x) : xs.take (k + 1) = xs.take k ++ [x] := by
 obtain ⟨hk, rfl⟩ := List.getElem?_eq_some_iff.1 h
 exact List.take_succ_eq_append_getElem hk
theorem info3 : (Tryz.prog.info? 3).map (fun i => (i.zero, i.size, i.bytes)) = some (some (.int .i64 0), 1, 8) := by kernel_rfl
theorem cell?_alloc_mark' (w : World) (C : Array Value) (t : TypeId) (m : Nat × Nat) (j : Nat) : (w.alloc (.cells C t m)).cell? ⟨w.heap.size, j, none⟩ = C[j]? := by
 have h : (w.alloc (.cells C t m)).heap[w.heap.size]? = some (.cells C t m) := by show (w.heap.push _)[w.heap.size]? = _; simp
 unfold World.cell?
 simp only [h]
 rfl
theorem Rd.of_own {α : Type} {f : α → Value} {w : World} {base : Nat} {e : TypeId} {v : Value} {n : Nat} {xs : List α} (h : w.ownsRow base e 1 v n (xs.map f)) : Rd f w (base ≤ ·) v xs := by
 have hn : xs.length = n := by have := h.1; simpa using this
 rcases h.2 with ⟨rfl, rfl⟩ | ⟨g, cap, cur, rfl, hb, hg, h1, h2, h3, h4⟩
 ·exact ⟨none, 0, by rw [hn], by omega, by simp [maxLen], fun h0 => absurd (List.length_eq_zero_iff.1 hn) h0⟩
 ·refine ⟨_, cap, by rw [hn], by omega, h2, fun _ => ⟨g, 0, rfl, hb, fun i hi => ?_⟩⟩
  have hc := h.cellAt i (by omega)
  rw [Nat.zero_add, hc]
  simp [List.getElem?_eq_getElem hi]
end Go.Proofs.YtodckaioeomccaaGreat
namespace Go.Proofs.YtodckaioeomccaaGreat
open Go.RowKit
theorem info9 : (Tryz.prog.info? 9).map (fun i => (i.zero, i.size, i.bytes)) = some (some (.string ⟨#[]⟩), 1, 16) := by kernel_rfl
theorem Rd.nil_of {α : Type} {f : α → Value} {w : World} {S : Nat → Prop} {xs : List α} {n cap : Nat} (h : Rd f w S (.slice none n cap) xs) : xs = [] := by
 obtain ⟨A, c, he, _, _, h3⟩ := h
 by_cases h0 : xs = []
 ·exact h0
 ·obtain ⟨b, off, rfl, _⟩ := h3 h0
  simp at he
theorem Rd.none_ {α : Type} (f : α → Value) (w : World) (S : Nat → Prop) : Rd f w S (.slice none 0 0) [] := ⟨none, 0, rfl, Nat.le_refl _, by simp [maxLen], fun h => absurd rfl h⟩
theorem addr_add (b off j : Nat) : (⟨b, off, none⟩ : Addr).add j = ⟨b, off + j, none⟩ := by
 unfold Addr.add
 by_cases h : j = 0
 ·subst h; simp
 ·simp [h]
theorem Rd.cells {α : Type} {f : α → Value} {w : World} {S : Nat → Prop} {ad : Addr} {n cap : Nat} {xs : List α} (h : Rd f w S (.slice (some ad) n cap) xs) :
  ∀ j u, (xs.map f)[j]? = some u → w.cell? (ad.add j) = some u := by
 intro j u hu
 obtain ⟨A, c, he, _, _, h3⟩ := h
 have hne : xs ≠ [] := fun e => by subst e; simp at hu
 obtain ⟨b, off, rfl, _, hc⟩ := h3 hne
 simp only [Value.slice.injEq, Option.some.injEq] at he
 obtain ⟨rfl, _, _⟩ := he
 rw [List.getElem?_map, Option.map_eq_some_iff] at hu
 obtain ⟨x, hx, rfl⟩ := hu
 obtain ⟨hj, rfl⟩ := List.getElem?_eq_some_iff.1 hx
 rw [← hc j hj, addr_add]
theorem Rd.lt {α : Type} {f : α → Value} {w : World} {S : Nat → Prop} {v : Value} {xs : List α} (h : Rd f w S v xs) : Rd f w (fun b => S b ∧ b < w.heap.size) v xs := by
 obtain ⟨A, cap, rfl, h1, h2, h3⟩ := h
 refine ⟨A, cap, rfl, h1, h2, fun hn => ?_⟩
 obtain ⟨b, off, rfl, hb, hc⟩ := h3 hn
 exact ⟨b, off, rfl, ⟨hb, World.block_lt_of_cell? w ⟨b, off + 0, none⟩ (hc 0 (List.length_pos_iff.2 hn))⟩, hc⟩
theorem Rd.below {α : Type} {f : α → Value} {w w' : World} {S : Nat → Prop} {v : Value} {xs : List α} (h : Rd f w S v xs) (hb : Below w.heap.size w w') : Rd f w' S v xs :=
 ((h.lt.mono (S' := fun b => b < w.heap.size ∧ S b) (fun _ hk => ⟨hk.2, hk.1⟩)).keep ((Keep.of_below hb).mono fun _ hk => hk.1)).mono fun _ hk => hk.2
end Go.Proofs.YtodckaioeomccaaGreat
namespace Go.Proofs.YtodckaioeomccaaGreat
open Go.RowKit
def firstIdx (p : Nat → Bool) (n : Nat) : Int := match (List.range n).find? p with | some i => i | none => -1
theorem firstIdx_hit {p : Nat → Bool} {n k : Nat} (hk : k < n) (h : p k = true) (hn : ∀ j, j < k → p j = false) : firstIdx p n = k := by
 unfold firstIdx
 have : (List.range n).find? p = some k := by
  rw [List.find?_range_eq_some]
  exact ⟨h, by simpa using hk, fun j hj => by simp [hn j hj]⟩
 rw [this]
theorem firstIdx_miss {p : Nat → Bool} {n : Nat} (hn : ∀ j, j < n → p j = false) : firstIdx p n = -1 := by
 unfold firstIdx
 have : (List.range n).find? p = none := by rw [List.find?_eq_none]; intro j hj; simp [hn j (List.mem_range.1 hj)]
 rw [this]
set_option maxHeartbeats 400000 in
theorem indexFuncI_any (v : Value) (vs : List Value) (S : Nat → Prop) (fid : FuncId) (cpt : Array Value) (eg : ∀ args w, (callFunc fid args).run Tryz.prog w = .ok (.enter fid args) w) (p : Nat → Bool) (w : World) (hv : Rd id w S v vs)
  (hf : ∀ i u, vs[i]? = some u → ∀ w', Below w.heap.size w w' → Calls Tryz.prog fid (#[u] ++ cpt) w' fun e w'' => e = .returned (.bool (p i)) ∧ Below w'.heap.size w' w'') :
  Calls Tryz.prog 178 #[v, .func (.func fid) #[] cpt] w fun e w' => e = .returned (.int .i64 (firstIdx p vs.length)) ∧ Below w.heap.size w w' := by
 obtain ⟨A, n, cap, rfl, hn, hcap, hmax, hc⟩ := hv.lt.open_
 rw [hn]
 have HF := h0d hf
 have HN := h0d hn
 clear hn hf
 go_enter Tryz.func178, Tryz.ntmps178
 go_wp2_with fail
 go_loopw [8] (fun i wr => ∃ k : Nat, k ≤ n ∧ i = .int .i64 k ∧ Hid (∀ j, j < k → p j = false) ∧ Below w.heap.size w wr) (fun i _ => n - (intOf i).toNat)
 case atStart => exact ⟨0, by omega, rfl, fun j hj => absurd hj (by omega), Below.refl _ _⟩
 case round =>
  obtain ⟨k, hk, rfl, HK, hbl⟩ := hrel
  by_cases hlt : k < n
  ·obtain ⟨b, off, u, rfl, ⟨_, hbw⟩, hu, hcell⟩ := hc k hlt
   have hcell' : wr.cell? ⟨b, off + k, none⟩ = some u := (hbl.cell (p := ⟨b, off + k, none⟩) hbw).trans hcell
   have HCO := h0d (HF.out k u hu wr hbl)
   clear hc hcell hu
   cases hp : p k with
   | true =>
    have HR := h0d (firstIdx_hit hlt hp HK.out)
    rw [hp] at HCO
    clear hp
    go_wp2_with fail
    refine HCO.out.mono ?_
    rintro e w1 ⟨rfl, hb1⟩
    go_wp2_with fail
    go_ret
    exact ⟨ret_int HR.out.symm, hbl.trans (hb1.mono hbl.size)⟩
   | false =>
    have HK1 : Hid (∀ j, j < k + 1 → p j = false) := fun j hj => by
     rcases Nat.lt_or_ge j k with h | h
     ·exact HK.out j h
     ·obtain rfl : j = k := by omega
      exact hp
    rw [hp] at HCO
    clear hp
    go_wp2_with fail
    refine HCO.out.mono ?_
    rintro e w1 ⟨rfl, hb1⟩
    go_wp2_with fail
    go_roundw
    case rel => exact ⟨k + 1, by omega, by go_num, HK1, hbl.trans (hb1.mono hbl.size)⟩
    case measure => simp [intOf]; omega
  ·have HR := h0d (firstIdx_miss (n := n) (fun j hj => HK.out j (by omega)))
   clear hc
   go_wp2_with fail
   go_ret
   exact ⟨ret_int HR.out.symm, hbl⟩
def anyIdx (p : Nat → Bool) (n : Nat) : Bool := (List.range n).any p
theorem anyIdx_first (p : Nat → Bool) (n : Nat) : decide (0 ≤ firstIdx p n) = anyIdx p n := by
 unfold firstIdx anyIdx
 cases h : (List.range n).find? p with
 | none =>
  rw [List.find?_eq_none] at h
  symm
  simp only [show decide ((0 : Int) ≤ -1) = false from rfl]
  rw [List.any_eq_false]; exact h
 | some i =>
  have h1 := List.find?_some h
  have h2 := List.mem_of_find?_eq_some h
  symm
  have : decide ((0 : Int) ≤ (i : Int)) = true := by simp
  simp only [this]
  rw [List.any_eq_true]; exact ⟨i, h2, h1⟩
set_option maxHeartbeats 400000 in
theorem containsFuncI_any (v : Value) (vs : List Value) (S : Nat → Prop) (fid : FuncId) (cpt : Array Value) (eg : ∀ args w, (callFunc fid args).run Tryz.prog w = .ok (.enter fid args) w) (p : Nat → Bool) (w : World) (hv : Rd id w S v vs)
  (hf : ∀ i u, vs[i]? = some u → ∀ w', Below w.heap.size w w' → Calls Tryz.prog fid (#[u] ++ cpt) w' fun e w'' => e = .returned (.bool (p i)) ∧ Below w'.heap.size w' w'') :
  Calls Tryz.prog 91 #[v, .func (.func fid) #[] cpt] w fun e w' => e = .returned (.bool (anyIdx p vs.length)) ∧ Below w.heap.size w w' := by
 have HC := h0d (indexFuncI_any v vs S fid cpt eg p w hv hf)
 have HA := h0d (anyIdx_first p vs.length)
 obtain ⟨q, hq⟩ : ∃ q, q = firstIdx p vs.length := ⟨_, rfl⟩
 rw [← hq] at HC HA
 clear hf hv eg hq
 go_enter Tryz.func91, Tryz.ntmps91
 go_wp2_with (go_at_call 178; refine HC.out.mono ?_; rintro e w1 ⟨rfl, hb1⟩)
 go_ret
 exact ⟨ret_bool HA.out, hb1⟩
end Go.Proofs.YtodckaioeomccaaGreat
set_option linter.unusedSimpArgs false
set_option linter.unusedVariables false
set_option linter.unusedSectionVars false
namespace Go.Proofs.Cyc
set_option linter.unusedVariables false
def sumN : Nat → (Nat → Int) → Int
 | 0, _ => 0
 | n + 1, g => sumN n g + g n
theorem sumN_congr {g h : Nat → Int} : ∀ {n : Nat}, (∀ i, i < n → g i = h i) → sumN n g = sumN n h
 | 0, _ => rfl
 | n + 1, e => by unfold sumN; rw [sumN_congr (fun i hi => e i (by omega)), e n (by omega)]
theorem sumN_first (g : Nat → Int) : ∀ n : Nat, sumN (n + 1) g = g 0 + sumN n (fun i => g (i + 1))
 | 0 => by simp [sumN]
 | n + 1 => by
  rw [sumN, sumN_first g n]
  simp only [sumN]
  omega
def cor (f : Nat → Int) (n d : Nat) : Int := sumN n (fun i => f i * f ((i + d) % n))
def noiseN (f : Nat → Int) (n : Nat) : Nat → Int
 | 0 => 0
 | k + 1 => if k = 0 then noiseN f n k else max (noiseN f n k) (cor f n k)
def noise (f : Nat → Int) (n : Nat) : Int := noiseN f n n
end Go.Proofs.Cyc
namespace Go.Proofs.YtodckaioeomccaaGreat
set_option linter.unusedVariables false
def val (b : Nat) : List Nat → Nat
 | [] => 0
 | x :: xs => x + b * val b xs
theorem val_append (b : Nat) : ∀ (xs ys : List Nat), val b (xs ++ ys) = val b xs + b ^ xs.length * val b ys
 | [], ys => by simp [val]
 | x :: xs, ys => by
  rw [List.cons_append, val, val, val_append b xs ys, List.length_cons, Nat.pow_succ, Nat.mul_add, Nat.mul_comm (b ^ xs.length) b, Nat.mul_assoc, Nat.add_assoc]
theorem val_one (b x : Nat) : val b [x] = x := by simp [val]
theorem val_take (b : Nat) {xs : List Nat} {i x : Nat} (h : xs[i]? = some x) : val b (xs.take (i + 1)) = val b (xs.take i) + x * b ^ i := by
 obtain ⟨hi, rfl⟩ := List.getElem?_eq_some_iff.1 h
 rw [List.take_add_one, h, val_append]
 have : (xs.take i).length = i := by simp; omega
 rw [this]
 simp [val, Nat.mul_comm]
theorem val_drop (b : Nat) {xs : List Nat} {i x : Nat} (h : xs[i]? = some x) : val b (xs.drop i) = x + b * val b (xs.drop (i + 1)) := by
 obtain ⟨hi, rfl⟩ := List.getElem?_eq_some_iff.1 h
 rw [List.drop_eq_getElem_cons hi]; rfl
theorem val_split (b : Nat) (xs : List Nat) (i : Nat) (hi : i ≤ xs.length) : val b xs = val b (xs.take i) + b ^ i * val b (xs.drop i) := by
 conv => lhs; rw [← List.take_append_drop i xs]
 rw [val_append]
 have : (xs.take i).length = i := by simp; omega
 rw [this]
theorem val_lt {b : Nat} (hb : 1 ≤ b) : ∀ {xs : List Nat}, (∀ x ∈ xs, x < b) → val b xs < b ^ xs.length
 | [], _ => by simp [val]
 | x :: xs, h => by
  have h1 := h x (List.mem_cons_self ..)
  have h2 := val_lt hb (xs := xs) fun y hy => h y (List.mem_cons_of_mem _ hy)
  rw [val, List.length_cons, Nat.pow_succ]
  have : b * (val b xs + 1) ≤ b * b ^ xs.length := Nat.mul_le_mul_left b h2
  rw [Nat.mul_add, Nat.mul_one] at this
  rw [Nat.mul_comm (b ^ xs.length) b]
  omega
def digs (b n : Nat) : List Nat := if h : n = 0 ∨ b < 2 then [] else (n % b) :: digs b (n / b)
termination_by n
decreasing_by exact Nat.div_lt_self (by omega) (by omega)
theorem digs_zero (b : Nat) : digs b 0 = [] := by rw [digs]; simp
theorem digs_pos {b n : Nat} (hb : 2 ≤ b) (hn : n ≠ 0) : digs b n = (n % b) :: digs b (n / b) := by
 rw [digs, dif_neg (by omega)]
theorem val_digs {b : Nat} (hb : 2 ≤ b) (n : Nat) : val b (digs b n) = n := by
 induction n using Nat.strongRecOn with
 | _ n ih =>
  by_cases h : n = 0
  ·subst h; rw [digs_zero]; rfl
  ·rw [digs_pos hb h, val, ih _ (Nat.div_lt_self (by omega) (by omega))]
   exact Nat.mod_add_div n b
theorem digs_lt {b : Nat} (hb : 2 ≤ b) (n : Nat) : ∀ x ∈ digs b n, x < b := by
 induction n using Nat.strongRecOn with
 | _ n ih =>
  by_cases h : n = 0
  ·subst h; rw [digs_zero]; intro x hx; cases hx
  ·rw [digs_pos hb h]
   intro x hx
   rcases List.mem_cons.1 hx with rfl | hx
   ·exact Nat.mod_lt _ (by omega)
   ·exact ih _ (Nat.div_lt_self (by omega) (by omega)) x hx
structure Norm (b : Nat) (xs : List Nat) : Prop where
 lt : ∀ x ∈ xs, x < b
 last : ∀ x, xs.getLast? = some x → x ≠ 0
theorem digs_norm {b : Nat} (hb : 2 ≤ b) (n : Nat) : Norm b (digs b n) := by
 refine ⟨digs_lt hb n, ?_⟩
 induction n using Nat.strongRecOn with
 | _ n ih =>
  by_cases h : n = 0
  ·subst h; rw [digs_zero]; intro x hx; cases hx
  ·rw [digs_pos hb h]
   intro x hx
   by_cases hd : n / b = 0
   ·rw [hd, digs_zero] at hx
    simp at hx
    have : n < b := by
     rcases Nat.lt_or_ge n b with h1 | h1
     ·exact h1
     ·have := Nat.div_pos (a := n) (b := b) h1 (by omega); omega
    rw [Nat.mod_eq_of_lt this] at hx
    omega
   ·refine ih (n / b) (Nat.div_lt_self (by omega) (by omega)) x ?_
    rw [List.getLast?_cons] at hx
    have hne : digs b (n / b) ≠ [] := by rw [digs_pos hb hd]; simp
    rw [List.getLast?_eq_some_getLast hne]
    rw [List.getLast?_eq_some_getLast hne] at hx
    simpa using hx
theorem Norm.tail {b x : Nat} {xs : List Nat} (h : Norm b (x :: xs)) : Norm b xs := by
 refine ⟨fun y hy => h.lt y (List.mem_cons_of_mem _ hy), fun y hy => ?_⟩
 cases xs with
 | nil => cases hy
 | cons z zs => exact h.last y (by rw [List.getLast?_cons_cons]; exact hy)
theorem norm_val_pos {b : Nat} (hb : 2 ≤ b) : ∀ {xs : List Nat}, Norm b xs → xs ≠ [] → val b xs ≠ 0
 | [], _, h => absurd rfl h
 | [x], hn, _ => by rw [val_one]; exact hn.last x rfl
 | x :: y :: xs, hn, _ => by
  have := norm_val_pos hb hn.tail (by simp)
  rw [val]
  have h2 : 1 ≤ val b (y :: xs) := by omega
  have : b * 1 ≤ b * val b (y :: xs) := Nat.mul_le_mul_left b h2
  omega
theorem norm_digs {b : Nat} (hb : 2 ≤ b) : ∀ {xs : List Nat}, Norm b xs → xs = digs b (val b xs)
 | [], _ => by rw [val, digs_zero]
 | x :: xs, hn => by
  have hx := hn.lt x (List.mem_cons_self ..)
  rw [digs_pos hb (norm_val_pos hb hn (by simp)), val, Nat.add_mul_mod_self_left, Nat.mod_eq_of_lt hx, Nat.add_mul_div_left _ _ (show 0 < b by omega), Nat.div_eq_of_lt hx, Nat.zero_add, ← norm_digs hb hn.tail]
theorem digs_inj {b m n : Nat} (hb : 2 ≤ b) (h : digs b m = digs b n) : m = n := by rw [← val_digs hb m, h, val_digs hb]
theorem digs_nil {b n : Nat} (hb : 2 ≤ b) : digs b n = [] ↔ n = 0 := by
 constructor
 ·intro h; rw [← val_digs hb n, h]; rfl
 ·rintro rfl; exact digs_zero b
theorem len_le_iff {b : Nat} (hb : 2 ≤ b) (n k : Nat) : (digs b n).length ≤ k ↔ n < b ^ k := by
 have hbp : ∀ k, 0 < b ^ k := fun k => Nat.pow_pos (by omega)
 constructor
 ·intro h
  have h1 := val_lt (b := b) (by omega) (digs_lt hb n)
  rw [val_digs hb] at h1
  exact Nat.lt_of_lt_of_le h1 (Nat.pow_le_pow_right (by omega) h)
 ·induction k generalizing n with
  | zero => intro h; simp at h; subst h; rw [digs_zero]; simp
  | succ k ih =>
   intro h
   by_cases hn : n = 0
   ·subst hn; rw [digs_zero]; simp
   ·rw [digs_pos hb hn, List.length_cons]
    have : n / b < b ^ k := by rw [Nat.div_lt_iff_lt_mul (by omega), ← Nat.pow_succ]; exact h
    have := ih _ this
    omega
theorem lt_len {b : Nat} (hb : 2 ≤ b) (n : Nat) : n < b ^ (digs b n).length := (len_le_iff hb n _).1 (Nat.le_refl _)
theorem len_mono {b m n : Nat} (hb : 2 ≤ b) (h : m ≤ n) : (digs b m).length ≤ (digs b n).length := (len_le_iff hb m _).2 (Nat.lt_of_le_of_lt h (lt_len hb n))
theorem len_add {b m n : Nat} (hb : 2 ≤ b) : (digs b (m + n)).length ≤ max (digs b m).length (digs b n).length + 1 := by
 rw [len_le_iff hb]
 have h1 : m < b ^ max (digs b m).length (digs b n).length := (len_le_iff hb m _).1 (by omega)
 have h2 : n < b ^ max (digs b m).length (digs b n).length := (len_le_iff hb n _).1 (by omega)
 rw [Nat.pow_succ]
 have : b ^ max (digs b m).length (digs b n).length * 2 ≤ b ^ max (digs b m).length (digs b n).length * b := Nat.mul_le_mul_left _ hb
 omega
theorem len_mul {b m n : Nat} (hb : 2 ≤ b) : (digs b (m * n)).length ≤ (digs b m).length + (digs b n).length := by
 rw [len_le_iff hb, Nat.pow_add]
 exact Nat.mul_lt_mul'' (lt_len hb m) (lt_len hb n)
def cutN : List Nat → Nat → Nat
 | _, 0 => 0
 | xs, k + 1 => if xs.getD k 0 = 0 then cutN xs k else k + 1
theorem cutN_digs {b : Nat} (hb : 2 ≤ b) {xs : List Nat} (h : ∀ x ∈ xs, x < b) : ∀ k, k ≤ xs.length → xs.take (cutN xs k) = digs b (val b (xs.take k))
 | 0, _ => by simp [cutN, val, digs_zero]
 | k + 1, hk => by
  have hx : xs[k]? = some (xs[k]'(by omega)) := List.getElem?_eq_getElem _
  have hg : xs.getD k 0 = xs[k]'(by omega) := by rw [List.getD_eq_getElem?_getD, hx]; rfl
  simp only [cutN]
  split
  ·rename_i h0
   rw [cutN_digs hb h k (by omega), val_take b hx, ← hg, h0]; simp
  ·rename_i h0
   refine norm_digs hb ⟨fun x hx => h x (List.mem_of_mem_take hx), fun x hx' => ?_⟩
   have e : xs.take (k + 1) = xs.take k ++ [xs[k]'(by omega)] := by rw [List.take_add_one, hx]; rfl
   rw [e, List.getLast?_concat] at hx'
   rw [← Option.some.inj hx', ← hg]; exact h0
theorem digs_small {b n : Nat} (hb : 2 ≤ b) (h0 : n ≠ 0) (h : n < b) : digs b n = [n] := by
 rw [digs_pos hb h0, Nat.mod_eq_of_lt h, Nat.div_eq_of_lt h, digs_zero]
theorem len_lt_val {b m n : Nat} (hb : 2 ≤ b) (h : (digs b m).length < (digs b n).length) : m < n := by
 rcases Nat.lt_or_ge m n with h1 | h1
 ·exact h1
 ·have := len_mono hb h1; omega
theorem val_le_of {b : Nat} (hb : 2 ≤ b) {xs ys : List Nat} {i x y : Nat} (hl : xs.length = ys.length) (hx : xs[i]? = some x) (hy : ys[i]? = some y) (hlx : ∀ z ∈ xs, z < b) (hs : xs.drop (i + 1) = ys.drop (i + 1)) (hlt : x < y) : val b xs < val b ys := by
 have hi := (List.getElem?_eq_some_iff.1 hx).1
 have hj := (List.getElem?_eq_some_iff.1 hy).1
 rw [val_split b xs i (by omega), val_split b ys i (by omega), val_drop b hx, val_drop b hy, hs]
 have h1 : val b (xs.take i) < b ^ i := by
  have := val_lt (b := b) (by omega) (xs := xs.take i) fun z hz => hlx z (List.mem_of_mem_take hz)
  rwa [List.length_take, Nat.min_eq_left (by omega)] at this
 have h2 : b ^ i * (x + 1 + b * val b (ys.drop (i + 1))) ≤ b ^ i * (y + b * val b (ys.drop (i + 1))) := Nat.mul_le_mul_left _ (by omega)
 have h3 : b ^ i * (x + 1 + b * val b (ys.drop (i + 1))) = b ^ i * (x + b * val b (ys.drop (i + 1))) + b ^ i := by
  rw [show x + 1 + b * val b (ys.drop (i + 1)) = x + b * val b (ys.drop (i + 1)) + 1 by omega, Nat.mul_add, Nat.mul_one]
 omega
end Go.Proofs.YtodckaioeomccaaGreat
namespace Go.Proofs.YtodckaioeomccaaGreat
set_option linter.unusedVariables false
theorem est_hi {U V T W E lo lv : Nat} (hU : U = T * E + lo) (hlo : lo < E) (hV : V = W * E + lv) (hW : 0 < W) : U / V ≤ T / W := by
 have hE : 0 < E := by omega
 rw [Nat.le_div_iff_mul_le hW]
 have h1 : U / V * V ≤ U := Nat.div_mul_le_self U V
 have h2 : U / V * W * E ≤ U / V * V := by rw [Nat.mul_assoc]; exact Nat.mul_le_mul_left _ (by omega)
 have h3 : U / V * W * E < (T + 1) * E := by rw [Nat.add_mul, Nat.one_mul]; omega
 have := Nat.lt_of_mul_lt_mul_right h3
 omega
theorem est_less {U V T W E lo lv g : Nat} (hU : U = T * E + lo) (hlo : lo < E) (hV : V = W * E + lv) (hV0 : 0 < V) (h : T < g * W) : U / V < g := by
 rw [Nat.div_lt_iff_lt_mul hV0]
 have h1 : g * W * E ≤ g * V := by rw [Nat.mul_assoc]; exact Nat.mul_le_mul_left _ (by omega)
 have h2 : (T + 1) * E ≤ g * W * E := Nat.mul_le_mul_right _ h
 rw [Nat.add_mul, Nat.one_mul] at h2
 omega
structure Half (K y y1 y0 N u : Nat) : Prop where
 hy : y = y1 * K + y0
 y0K : y0 < K
 top : K ≤ 2 * y1
 y1K : y1 < K
 hN : N < y
 hu : u < K
def halfQ (K y N u : Nat) : Nat := (N * K + u) / y
theorem Half.y1pos {K y y1 y0 N u : Nat} (h : Half K y y1 y0 N u) : 0 < y1 := by have := h.y0K; have := h.top; omega
theorem Half.ypos {K y y1 y0 N u : Nat} (h : Half K y y1 y0 N u) : 0 < y := by have := h.hN; omega
theorem Half.ltK {K y y1 y0 N u : Nat} (h : Half K y y1 y0 N u) : halfQ K y N u < K := by
 unfold halfQ
 rw [Nat.div_lt_iff_lt_mul h.ypos]
 have h1 : (N + 1) * K ≤ y * K := Nat.mul_le_mul_right K h.hN
 rw [Nat.add_mul, Nat.one_mul] at h1
 rw [Nat.mul_comm K y]
 have := h.hu
 omega
theorem Half.start {K y y1 y0 N u : Nat} (h : Half K y y1 y0 N u) : halfQ K y N u ≤ N / y1 := est_hi (E := K) rfl h.hu h.hy h.y1pos
theorem Half.prod {K y y1 y0 N u q r : Nat} (h : Half K y y1 y0 N u) (hN : N = q * y1 + r) : q * y + K * r + u = N * K + u + q * y0 := by
 rw [h.hy, hN, Nat.mul_add, Nat.add_mul, Nat.mul_assoc, Nat.mul_comm K r]; omega
theorem Half.less {K y y1 y0 N u q r : Nat} (h : Half K y y1 y0 N u) (hN : N = q * y1 + r) (hc : K ≤ q ∨ K * r + u < q * y0) : halfQ K y N u < q := by
 rcases hc with hc | hc
 ·have := h.ltK; omega
 ·unfold halfQ
  rw [Nat.div_lt_iff_lt_mul h.ypos]
  have := h.prod hN
  omega
theorem Half.eq {K y y1 y0 N u q r : Nat} (h : Half K y y1 y0 N u) (hN : N = q * y1 + r) (hq : halfQ K y N u ≤ q) (hc : q * y0 ≤ K * r + u) : q = halfQ K y N u := by
 refine Nat.le_antisymm ?_ hq
 unfold halfQ
 rw [Nat.le_div_iff_mul_le h.ypos]
 have := h.prod hN
 omega
theorem Half.brk {K y y1 y0 N u q r : Nat} (h : Half K y y1 y0 N u) (hN : N = q * y1 + r) (hr : K ≤ r) : q * y0 ≤ K * r + u := by
 have hq : q ≤ K := by
  refine Nat.not_lt.1 fun hlt => ?_
  have h1 : K * y1 ≤ q * y1 := Nat.mul_le_mul_right _ (by omega)
  have h2 := h.hN
  have h3 := h.hy
  have h4 := h.y0K
  rw [Nat.mul_comm y1 K] at h3
  omega
 have h1 : q * y0 ≤ K * y0 := Nat.mul_le_mul_right _ hq
 have h2 : K * y0 ≤ K * r := Nat.mul_le_mul_left _ (by have := h.y0K; omega)
 omega
theorem Half.rest {K y y1 y0 N u : Nat} (h : Half K y y1 y0 N u) : N * K + u - halfQ K y N u * y = (N * K + u) % y ∧ halfQ K y N u * y ≤ N * K + u := by
 have h1 := Nat.div_add_mod (N * K + u) y
 unfold halfQ
 rw [Nat.mul_comm y] at h1
 constructor <;> omega
theorem two_halves {K y hi lo1 lo0 : Nat} (hy : 0 < y) (q1 r1 q0 r0 : Nat) (h1 : q1 = (hi * K + lo1) / y) (h1' : r1 = (hi * K + lo1) % y) (h0 : q0 = (r1 * K + lo0) / y) (h0' : r0 = (r1 * K + lo0) % y) :
  q1 * K + q0 = (hi * (K * K) + (lo1 * K + lo0)) / y ∧ r0 = (hi * (K * K) + (lo1 * K + lo0)) % y := by
 have e1 := Nat.div_add_mod (hi * K + lo1) y
 rw [← h1, ← h1'] at e1
 have e0 := Nat.div_add_mod (r1 * K + lo0) y
 rw [← h0, ← h0'] at e0
 have hr : r0 < y := by rw [h0']; exact Nat.mod_lt _ hy
 have hall : hi * (K * K) + (lo1 * K + lo0) = r0 + y * (q1 * K + q0) := by
  have : hi * (K * K) + lo1 * K = (hi * K + lo1) * K := by rw [Nat.add_mul, Nat.mul_assoc]
  rw [← Nat.add_assoc, this, ← e1, Nat.add_mul, Nat.mul_add, Nat.mul_assoc]
  omega
 rw [hall, Nat.add_mul_div_left _ _ hy, Nat.add_mul_mod_self_left, Nat.div_eq_of_lt hr, Nat.mod_eq_of_lt hr, Nat.zero_add]
 exact ⟨rfl, rfl⟩
theorem scaled_div {u y s : Nat} (hs : 0 < s) : (u * s) / (y * s) = u / y ∧ (u * s) % (y * s) / s = u % y := by
 refine ⟨Nat.mul_div_mul_right u y hs, ?_⟩
 rw [Nat.mul_mod_mul_right, Nat.mul_div_cancel _ hs]
end Go.Proofs.YtodckaioeomccaaGreat
set_option linter.unusedSimpArgs false
set_option linter.unusedVariables false
set_option linter.unusedSectionVars false
namespace Go.Proofs.S4P
set_option linter.unusedVariables false
structure S4 where
 a : Rat
 b : Rat
 c : Rat
 e : Rat
deriving DecidableEq
namespace S4
def zero : S4 := ⟨0, 0, 0, 0⟩
def ofQ (q : Rat) : S4 := ⟨q, 0, 0, 0⟩
def add (x y : S4) : S4 := ⟨x.a + y.a, x.b + y.b, x.c + y.c, x.e + y.e⟩
def neg (x : S4) : S4 := ⟨-x.a, -x.b, -x.c, -x.e⟩
def sub (x y : S4) : S4 := x.add y.neg
theorem ext {x y : S4} (h1 : x.a = y.a) (h2 : x.b = y.b) (h3 : x.c = y.c) (h4 : x.e = y.e) : x = y := by cases x; cases y; simp_all
theorem add_comm (x y : S4) : x.add y = y.add x := by apply ext <;> simp only [add] <;> grind
theorem add_assoc (x y z : S4) : (x.add y).add z = x.add (y.add z) := by apply ext <;> simp only [add] <;> grind
theorem zero_add (x : S4) : zero.add x = x := by apply ext <;> simp only [add, zero] <;> grind
end S4
structure W4 where
 re : S4
 im : S4
deriving DecidableEq
namespace W4
def zero : W4 := ⟨.zero, .zero⟩
def add (x y : W4) : W4 := ⟨x.re.add y.re, x.im.add y.im⟩
def ofQ (q : Rat) : W4 := ⟨.ofQ q, .zero⟩
theorem ext {x y : W4} (h1 : x.re = y.re) (h2 : x.im = y.im) : x = y := by cases x; cases y; simp_all
theorem add_comm (x y : W4) : x.add y = y.add x := ext (S4.add_comm _ _) (S4.add_comm _ _)
theorem add_assoc (x y z : W4) : (x.add y).add z = x.add (y.add z) := ext (S4.add_assoc _ _ _) (S4.add_assoc _ _ _)
theorem zero_add (x : W4) : zero.add x = x := ext (S4.zero_add _) (S4.zero_add _)
end W4
def cos6 : Nat → S4
 | 0 => ⟨1, 0, 0, 0⟩
 | 1 => ⟨0, 1/4, 0, 1/4⟩
 | 2 => ⟨0, 0, 1/2, 0⟩
 | 3 => ⟨0, 1/2, 0, 0⟩
 | 4 => ⟨1/2, 0, 0, 0⟩
 | 5 => ⟨0, -1/4, 0, 1/4⟩
 | _ => ⟨0, 0, 0, 0⟩
def cosN (k : Nat) : S4 :=
 let k' := if 12 < k then 24 - k else k
 if 6 < k' then (cos6 (12 - k')).neg else cos6 k'
def turnN (k : Nat) : W4 := ⟨cosN k, cosN ((k + 18) % 24)⟩
def turn (k : Int) : W4 := turnN (k % 24).toNat
end Go.Proofs.S4P
namespace Go.Proofs.ImpP
open Go.Proofs.S4P
set_option linter.unusedVariables false
def wsum (o : Int) : Int → List Int → W4
 | _, [] => .zero
 | s, x :: l => (turn (o * s)).add (wsum o (s + x) l)
theorem add_zero (x : W4) : x.add .zero = x := by rw [W4.add_comm, W4.zero_add]
theorem wsum_snoc (o p : Int) : ∀ (s : Int) (l : List Int), wsum o s (l ++ [p]) = (wsum o s l).add (turn (o * (s + l.sum)))
 | s, [] => by
  show (turn (o * s)).add .zero = W4.zero.add (turn (o * (s + 0)))
  rw [add_zero, W4.zero_add, Int.add_zero]
 | s, x :: l => by
  show (turn (o * s)).add (wsum o (s + x) (l ++ [p])) = ((turn (o * s)).add (wsum o (s + x) l)).add _
  rw [wsum_snoc o p (s + x) l, W4.add_assoc, List.sum_cons, Int.add_assoc]
theorem wsum_take (o : Int) {l : List Int} {k : Nat} (hk : k < l.length) : wsum o 0 (l.take (k + 1)) = (wsum o 0 (l.take k)).add (turn (o * (l.take k).sum)) := by
 rw [List.take_succ_eq_append_getElem hk, wsum_snoc, Int.zero_add]
end Go.Proofs.ImpP
set_option linter.unusedSimpArgs false
set_option linter.unusedVariables false
set_option linter.unusedSectionVars false
namespace Go.Proofs.Arr
set_option linter.unusedVariables false
def LL : List Int → List Int → Prop
 | x :: xs, y :: ys => x < y ∨ (x = y ∧ LL xs ys)
 | _, _ => False
theorem LL.irrefl : ∀ l : List Int, ¬ LL l l
 | [], h => h
 | x :: xs, h => by
  rcases h with h | ⟨_, h⟩
  ·omega
  ·exact LL.irrefl xs h
theorem LL.trans : ∀ {a b c : List Int}, LL a b → LL b c → LL a c
 | x :: xs, y :: ys, z :: zs, h1, h2 => by
  rcases h1 with h1 | ⟨rfl, h1⟩
  ·rcases h2 with h2 | ⟨rfl, _⟩
   ·exact .inl (by omega)
   ·exact .inl h1
  ·rcases h2 with h2 | ⟨rfl, h2⟩
   ·exact .inl h2
   ·exact .inr ⟨rfl, h1.trans h2⟩
 | x :: xs, y :: ys, [], h1, h2 => h2.elim
 | x :: xs, [], _, h1, _ => h1.elim
 | [], _, _, h1, _ => h1.elim
def Desc (l : List Int) : Prop := l.Pairwise (fun a b => b ≤ a)
def Asc (l : List Int) : Prop := l.Pairwise (fun a b => a ≤ b)
theorem asc_least : ∀ {l z : List Int}, Asc l → z.Perm l → z = l ∨ LL l z
 | [], z, _, hp => .inl hp.eq_nil
 | x :: xs, [], _, hp => by have := hp.length_eq; simp at this
 | x :: xs, y :: ys, ha, hp => by
  have hx : ∀ b ∈ x :: xs, x ≤ b := fun b hb => by
   rcases List.mem_cons.1 hb with rfl | hb
   ·exact Int.le_refl _
   ·exact (List.pairwise_cons.1 ha).1 b hb
  have hy := hx y (hp.mem_iff.1 (List.mem_cons_self ..))
  rcases Int.lt_or_eq_of_le hy with h | h
  ·exact .inr (.inl h)
  ·subst h
   have hp2 : ys.Perm xs := List.Perm.cons_inv hp
   rcases asc_least (List.pairwise_cons.1 ha).2 hp2 with h2 | h2
   ·exact .inl (by rw [h2])
   ·exact .inr (.inr ⟨rfl, h2⟩)
theorem desc_most : ∀ {l z : List Int}, Desc l → z.Perm l → ¬ LL l z
 | [], z, _, hp, h => by rw [hp.eq_nil] at h; exact h
 | x :: xs, [], _, hp, h => h
 | x :: xs, y :: ys, ha, hp, h => by
  have hx : ∀ b ∈ x :: xs, b ≤ x := fun b hb => by
   rcases List.mem_cons.1 hb with rfl | hb
   ·exact Int.le_refl _
   ·exact (List.pairwise_cons.1 ha).1 b hb
  have hy := hx y (hp.mem_iff.1 (List.mem_cons_self ..))
  rcases h with h | ⟨rfl, h⟩
  ·omega
  ·exact desc_most (List.pairwise_cons.1 ha).2 (List.Perm.cons_inv hp) h
def repl (x : Int) : List Int → Option (Int × List Int)
 | [] => none
 | y :: ys => match repl x ys with
  | some (v, r) => some (v, y :: r)
  | none => if x < y then some (y, x :: ys) else none
def nextP : List Int → Option (List Int)
 | [] => none
 | x :: xs => match nextP xs with
  | some ys => some (x :: ys)
  | none => match repl x xs with
   | some (v, r) => some (v :: r.reverse)
   | none => none
theorem repl_none {x : Int} : ∀ {l : List Int}, repl x l = none → ∀ y ∈ l, y ≤ x
 | [], _, y, hy => by cases hy
 | z :: zs, h, y, hy => by
  unfold repl at h
  split at h
  ·cases h
  ·rename_i h2
   split at h
   ·cases h
   ·rename_i h3
    rcases List.mem_cons.1 hy with rfl | hy
    ·omega
    ·exact repl_none h2 y hy
theorem repl_some {x : Int} : ∀ {l : List Int} {v : Int} {r : List Int}, repl x l = some (v, r) → Desc l →
  x < v ∧ v ∈ l ∧ (v :: r).Perm (x :: l) ∧ Desc r ∧ (∀ y ∈ l, x < y → v ≤ y)
 | [], v, r, h, _ => by simp [repl] at h
 | z :: zs, v, r, h, hd => by
  have hdz := List.pairwise_cons.1 hd
  unfold repl at h
  split at h
  ·rename_i v' r' h2
   simp only [Option.some.injEq, Prod.mk.injEq] at h
   obtain ⟨rfl, rfl⟩ := h
   obtain ⟨a, b, c, d, e⟩ := repl_some h2 hdz.2
   refine ⟨a, List.mem_cons_of_mem _ b, ?_, ?_, fun y hy hxy => ?_⟩
   ·exact (List.Perm.swap z v' r').trans ((List.Perm.cons z c).trans (List.Perm.swap x z zs))
   ·refine List.pairwise_cons.2 ⟨fun b' hb' => ?_, d⟩
    have hm : b' ∈ x :: zs := c.mem_iff.1 (List.mem_cons_of_mem _ hb')
    rcases List.mem_cons.1 hm with rfl | hm
    ·have := hdz.1 v' b; omega
    ·exact hdz.1 b' hm
   ·rcases List.mem_cons.1 hy with rfl | hy
    ·exact hdz.1 v' b
    ·exact e y hy hxy
  ·rename_i h2
   split at h
   ·rename_i h3
    simp only [Option.some.injEq, Prod.mk.injEq] at h
    obtain ⟨rfl, rfl⟩ := h
    have hn := repl_none h2
    refine ⟨h3, List.mem_cons_self .., List.Perm.swap x z zs, ?_, fun y hy hxy => ?_⟩
    ·exact List.pairwise_cons.2 ⟨hn, hdz.2⟩
    ·rcases List.mem_cons.1 hy with rfl | hy
     ·exact Int.le_refl _
     ·have := hn y hy; omega
   ·cases h
theorem nextP_none : ∀ {l : List Int}, nextP l = none → Desc l
 | [], _ => List.Pairwise.nil
 | x :: xs, h => by
  unfold nextP at h
  split at h
  ·cases h
  ·rename_i h2
   split at h
   ·cases h
   ·rename_i h3
    exact List.pairwise_cons.2 ⟨repl_none h3, nextP_none h2⟩
theorem nextP_some : ∀ {l r : List Int}, nextP l = some r → r.Perm l ∧ LL l r ∧ ∀ z : List Int, z.Perm l → LL l z → z = r ∨ LL r z
 | [], r, h => by simp [nextP] at h
 | x :: xs, r, h => by
  unfold nextP at h
  split at h
  ·rename_i ys h2
   simp only [Option.some.injEq] at h
   subst h
   obtain ⟨a, b, c⟩ := nextP_some h2
   refine ⟨List.Perm.cons x a, .inr ⟨rfl, b⟩, fun z hz hl => ?_⟩
   match z, hz, hl with
   | [], hz, hl => exact hl.elim
   | y :: zs, hz, hl =>
    rcases hl with hl | ⟨rfl, hl⟩
    ·exact .inr (.inl hl)
    ·rcases c zs (List.Perm.cons_inv hz) hl with h4 | h4
     ·exact .inl (by rw [h4])
     ·exact .inr (.inr ⟨rfl, h4⟩)
  ·rename_i h2
   have hd := nextP_none h2
   split at h
   ·rename_i v r' h3
    simp only [Option.some.injEq] at h
    subst h
    obtain ⟨a, b, c, d, e⟩ := repl_some h3 hd
    have hp : (v :: r'.reverse).Perm (x :: xs) := (List.Perm.cons v (List.reverse_perm r')).trans c
    refine ⟨hp, .inl a, fun z hz hl => ?_⟩
    match z, hz, hl with
    | [], hz, hl => exact hl.elim
    | y :: zs, hz, hl =>
     rcases hl with hl | ⟨rfl, hl⟩
     ·have hy : y ∈ xs := by
       rcases List.mem_cons.1 (hz.mem_iff.1 (List.mem_cons_self ..)) with e1 | e1
       ·omega
       ·exact e1
      have hvy := e y hy hl
      rcases Int.lt_or_eq_of_le hvy with h4 | h4
      ·exact .inr (.inl h4)
      ·subst h4
       have hp2 : zs.Perm r'.reverse := List.Perm.cons_inv (hz.trans hp.symm)
       have ha : Asc r'.reverse := by unfold Asc; rw [List.pairwise_reverse]; exact d
       rcases asc_least ha hp2 with h5 | h5
       ·exact .inl (by rw [h5])
       ·exact .inr (.inr ⟨rfl, h5⟩)
     ·exact absurd hl (desc_most hd (List.Perm.cons_inv hz))
   ·cases h
def arrL : Nat → List Int → List (List Int)
 | 0, _ => [[]]
 | n + 1, l => (List.range 100).flatMap fun (v : Nat) => if ((v : Int) + 1) ∈ l then (arrL n (l.erase ((v : Int) + 1))).map (((v : Int) + 1) :: ·) else []
def Small (l : List Int) : Prop := ∀ x ∈ l, 1 ≤ x ∧ x ≤ 100
theorem Small.erase {l : List Int} (h : Small l) (a : Int) : Small (l.erase a) := fun x hx => h x (List.mem_of_mem_erase hx)
theorem arr_mem : ∀ {n : Nat} {l z : List Int}, l.length = n → Small l → (z ∈ arrL n l ↔ z.Perm l)
 | 0, l, z, hn, _ => by
  have : l = [] := List.length_eq_zero_iff.1 hn
  subst this
  simp only [arrL, List.mem_singleton]
  exact ⟨fun h => by rw [h], fun h => h.eq_nil⟩
 | n + 1, l, z, hn, hs => by
  simp only [arrL, List.mem_flatMap, List.mem_range]
  constructor
  ·rintro ⟨v, hv, hz⟩
   split at hz
   ·rename_i hm
    obtain ⟨y, hy, rfl⟩ := List.mem_map.1 hz
    have hl : (l.erase ((v : Int) + 1)).length = n := by rw [List.length_erase_of_mem hm]; omega
    exact (List.Perm.cons _ ((arr_mem hl (hs.erase _)).1 hy)).trans (List.perm_cons_erase hm).symm
   ·cases hz
  ·intro hp
   match z, hp with
   | [], hp => have := hp.length_eq; simp at this; omega
   | y :: ys, hp =>
    have hy := hp.mem_iff.1 (List.mem_cons_self ..)
    obtain ⟨h1, h2⟩ := hs y hy
    refine ⟨(y - 1).toNat, by omega, ?_⟩
    have e : (((y - 1).toNat : Nat) : Int) + 1 = y := by omega
    rw [e, if_pos hy]
    have hl : (l.erase y).length = n := by rw [List.length_erase_of_mem hy]; omega
    refine List.mem_map.2 ⟨ys, (arr_mem hl (hs.erase _)).2 ?_, rfl⟩
    exact List.Perm.cons_inv (hp.trans (List.perm_cons_erase hy))
theorem pairwise_flat {α β : Type} {R : β → β → Prop} {f : α → List β} : ∀ {l : List α}, (∀ a ∈ l, (f a).Pairwise R) → l.Pairwise (fun a b => ∀ x ∈ f a, ∀ y ∈ f b, R x y) → (l.flatMap f).Pairwise R
 | [], _, _ => by simp
 | a :: l, h1, h2 => by
  rw [List.flatMap_cons, List.pairwise_append]
  have h3 := List.pairwise_cons.1 h2
  refine ⟨h1 a (List.mem_cons_self ..), pairwise_flat (fun b hb => h1 b (List.mem_cons_of_mem _ hb)) h3.2, fun x hx y hy => ?_⟩
  obtain ⟨b, hb, hy⟩ := List.mem_flatMap.1 hy
  exact h3.1 b hb x hx y hy
theorem arr_sorted : ∀ (n : Nat) (l : List Int), (arrL n l).Pairwise LL
 | 0, l => by simp [arrL]
 | n + 1, l => by
  simp only [arrL]
  refine pairwise_flat (fun v _ => ?_) ?_
  ·split
   ·rw [List.pairwise_map]
    exact (arr_sorted n _).imp fun h => .inr ⟨rfl, h⟩
   ·exact List.Pairwise.nil
  ·refine List.Pairwise.imp (R := (· < ·)) ?_ List.pairwise_lt_range
   intro a b hab x hx y hy
   split at hx
   ·split at hy
    ·obtain ⟨x', _, rfl⟩ := List.mem_map.1 hx
     obtain ⟨y', _, rfl⟩ := List.mem_map.1 hy
     exact .inl (by omega)
    ·cases hy
   ·cases hx
theorem next_at {n : Nat} {l : List Int} (hn : l.length = n) (hs : Small l) {i : Nat} {z : List Int} (h : (arrL n l)[i]? = some z) : nextP z = (arrL n l)[i + 1]? := by
 have hS := List.pairwise_iff_getElem.1 (arr_sorted n l)
 obtain ⟨hi, hz⟩ := List.getElem?_eq_some_iff.1 h
 have hzl : z.Perm l := (arr_mem hn hs).1 (hz ▸ List.getElem_mem hi)
 cases e : nextP z with
 | none =>
  have hd := nextP_none e
  by_cases h2 : i + 1 < (arrL n l).length
  ·have hlt := hS i (i + 1) hi h2 (by omega)
   rw [hz] at hlt
   have hp := (arr_mem hn hs).1 (List.getElem_mem h2)
   exact absurd hlt (desc_most hd (hp.trans hzl.symm))
  ·rw [List.getElem?_eq_none (by omega)]
 | some r =>
  obtain ⟨h1, h2, h3⟩ := nextP_some e
  obtain ⟨j, hj, hr⟩ := List.getElem_of_mem ((arr_mem hn hs).2 (h1.trans hzl))
  have hij : i < j := by
   rcases Nat.lt_trichotomy i j with h4 | h4 | h4
   ·exact h4
   ·subst h4; rw [hz] at hr; rw [hr] at h2; exact absurd h2 (LL.irrefl _)
   ·have := hS j i hj hi h4
    rw [hr, hz] at this
    exact absurd (h2.trans this) (LL.irrefl _)
  have h5 : i + 1 < (arrL n l).length := by omega
  rw [List.getElem?_eq_getElem h5]
  have hlt := hS i (i + 1) hi h5 (by omega)
  rw [hz] at hlt
  have hp := (arr_mem hn hs).1 (List.getElem_mem h5)
  rcases h3 _ (hp.trans hzl.symm) hlt with h6 | h6
  ·rw [h6]
  ·exfalso
   rcases Nat.eq_or_lt_of_le (show i + 1 ≤ j by omega) with h7 | h7
   ·subst h7; rw [hr] at h6; exact LL.irrefl _ h6
   ·have := hS (i + 1) j h5 hj h7
    rw [hr] at this
    exact LL.irrefl _ (h6.trans this)
theorem arr_first {n : Nat} {l s : List Int} (hn : l.length = n) (hs : Small l) (ha : Asc s) (hp : s.Perm l) : (arrL n l)[0]? = some s := by
 have hS := List.pairwise_iff_getElem.1 (arr_sorted n l)
 obtain ⟨j, hj, hr⟩ := List.getElem_of_mem ((arr_mem hn hs).2 hp)
 rcases Nat.eq_zero_or_pos j with h0 | h0
 ·subst h0; rw [List.getElem?_eq_getElem hj, hr]
 ·exfalso
  have hlt := hS 0 j (by omega) hj h0
  rw [hr] at hlt
  have hq := (arr_mem hn hs).1 (List.getElem_mem (show 0 < (arrL n l).length by omega))
  rcases asc_least ha (hq.trans hp.symm) with h6 | h6
  ·rw [h6] at hlt; exact LL.irrefl _ hlt
  ·exact LL.irrefl _ (hlt.trans h6)
end Go.Proofs.Arr
namespace Go.Proofs.Arr
theorem getD_cons_succ' (a : Int) (l : List Int) (k : Nat) : (a :: l).getD (k + 1) 0 = l.getD k 0 := by simp [List.getD_eq_getElem?_getD]
theorem getD_cons_zero' (a : Int) (l : List Int) : (a :: l).getD 0 0 = a := by simp [List.getD_eq_getElem?_getD]
theorem adj_le {l : List Int} (h : ∀ j, j + 1 < l.length → l.getD (j + 1) 0 ≤ l.getD j 0) (j : Nat) : ∀ k, j ≤ k → k < l.length → l.getD k 0 ≤ l.getD j 0
  | 0, h1, _ => by obtain rfl : j = 0 := by omega
                   exact Int.le_refl _
  | k + 1, h1, h2 => by
    rcases Nat.lt_or_ge j (k + 1) with h3 | h3
    · exact Int.le_trans (h k h2) (adj_le h j k (by omega) (by omega))
    · obtain rfl : j = k + 1 := by omega
      exact Int.le_refl _
theorem repl_le {x : Int} : ∀ {l : List Int}, (∀ k, k < l.length → l.getD k 0 ≤ x) → repl x l = none
  | [], _ => rfl
  | y :: ys, h => by
    have h1 : repl x ys = none := repl_le fun k hk => by have := h (k + 1) (by simpa using hk); rwa [getD_cons_succ'] at this
    have h2 := h 0 (by simp)
    rw [getD_cons_zero'] at h2
    unfold repl
    rw [h1]
    exact if_neg (by omega)
theorem repl_of {x : Int} : ∀ {l : List Int} {k : Nat}, k < l.length → x < l.getD k 0 → (∀ j, k < j → j < l.length → l.getD j 0 ≤ x) → repl x l = some (l.getD k 0, l.set k x)
  | [], k, h, _, _ => by simp at h
  | y :: ys, 0, h, h2, h3 => by
    have h1 : repl x ys = none := repl_le fun k hk => by have := h3 (k + 1) (by omega) (by simpa using hk); rwa [getD_cons_succ'] at this
    rw [getD_cons_zero'] at h2 ⊢
    unfold repl
    rw [h1]
    show (if x < y then _ else _) = _
    rw [if_pos h2, List.set_cons_zero]
  | y :: ys, k + 1, h, h2, h3 => by
    rw [getD_cons_succ'] at h2 ⊢
    have h1 := repl_of (l := ys) (k := k) (by simpa using h) h2 fun j hj hl => by have := h3 (j + 1) (by omega) (by simpa using hl); rwa [getD_cons_succ'] at this
    unfold repl
    rw [h1, List.set_cons_succ]
theorem nextP_desc : ∀ {l : List Int}, (∀ j, j + 1 < l.length → l.getD (j + 1) 0 ≤ l.getD j 0) → nextP l = none
  | [], _ => rfl
  | x :: xs, h => by
    have h1 : nextP xs = none := nextP_desc fun j hj => by have := h (j + 1) (by simpa using hj); rwa [getD_cons_succ', getD_cons_succ'] at this
    have h2 : repl x xs = none := repl_le fun k hk => by
      have := adj_le h 0 (k + 1) (by omega) (by simpa using hk)
      rwa [getD_cons_succ', getD_cons_zero'] at this
    unfold nextP
    rw [h1, h2]
theorem nextP_of : ∀ {l : List Int} {i k : Nat}, (∀ j, i < j → j + 1 < l.length → l.getD (j + 1) 0 ≤ l.getD j 0) → i < k → k < l.length →
    l.getD i 0 < l.getD k 0 → (∀ j, k < j → j < l.length → l.getD j 0 ≤ l.getD i 0) →
    nextP l = some (l.take i ++ (l.getD k 0 :: ((l.drop (i + 1)).set (k - (i + 1)) (l.getD i 0)).reverse))
  | [], _, _, _, _, h, _, _ => by simp at h
  | x :: xs, 0, k + 1, h1, h2, h3, h4, h5 => by
    have e1 : nextP xs = none := nextP_desc fun j hj => by have := h1 (j + 1) (by omega) (by simpa using hj); rwa [getD_cons_succ', getD_cons_succ'] at this
    rw [getD_cons_zero', getD_cons_succ'] at h4
    have e2 := repl_of (l := xs) (k := k) (by simpa using h3) h4 fun j hj hl => by have := h5 (j + 1) (by omega) (by simpa using hl); rwa [getD_cons_succ', getD_cons_zero'] at this
    unfold nextP
    rw [e1, e2, getD_cons_succ', getD_cons_zero']
    simp
  | x :: xs, i + 1, k + 1, h1, h2, h3, h4, h5 => by
    rw [getD_cons_succ', getD_cons_succ'] at h4
    have e := nextP_of (l := xs) (i := i) (k := k) (fun j hj hl => by have := h1 (j + 1) (by omega) (by simpa using hl); rwa [getD_cons_succ', getD_cons_succ'] at this) (by omega) (by simpa using h3) h4 (fun j hj hl => by have := h5 (j + 1) (by omega) (by simpa using hl); rwa [getD_cons_succ', getD_cons_succ'] at this)
    unfold nextP
    rw [e, getD_cons_succ', getD_cons_succ']
    simp
theorem swap_tail {l : List Int} {i k : Nat} (h2 : i < k) (h3 : k < l.length) :
    ((l.set i (l.getD k 0)).set k (l.getD i 0)).take (i + 1) ++ (((l.set i (l.getD k 0)).set k (l.getD i 0)).drop (i + 1)).reverse
      = l.take i ++ (l.getD k 0 :: ((l.drop (i + 1)).set (k - (i + 1)) (l.getD i 0)).reverse) := by
  have e1 : ((l.set i (l.getD k 0)).set k (l.getD i 0)).take (i + 1) = l.take i ++ [l.getD k 0] := by
    apply List.ext_getElem?
    intro j
    rw [List.getElem?_take, List.getElem?_append, List.getElem?_set, List.getElem?_set]
    simp only [List.length_take, List.length_set]
    rcases Nat.lt_trichotomy j i with h | h | h
    · rw [if_pos (by omega), if_neg (by omega), if_neg (by omega), if_pos (by omega), List.getElem?_take, if_pos (by omega)]
    · subst h
      rw [if_pos (by omega), if_neg (by omega), if_pos rfl, if_pos (by omega), if_neg (by omega), show j - min j l.length = 0 by omega]
      rfl
    · rw [if_neg (by omega), if_neg (by omega), List.getElem?_eq_none (by simp; omega)]
  have e2 : ((l.set i (l.getD k 0)).set k (l.getD i 0)).drop (i + 1) = (l.drop (i + 1)).set (k - (i + 1)) (l.getD i 0) := by
    rw [List.drop_set, if_neg (by omega), List.drop_set, if_pos (by omega)]
  rw [e1, e2]
  simp
end Go.Proofs.Arr
set_option linter.unusedSimpArgs false
set_option linter.unusedVariables false
namespace Go.Proofs.Plc
open Go.Proofs.S4P
structure Qd where
 a : Int
 b : Int
 c : Int
 d : Int
deriving DecidableEq
namespace Qd
def zero : Qd := ⟨0, 0, 0, 0⟩
def neg (x : Qd) : Qd := ⟨-x.a, -x.b, -x.c, -x.d⟩
end Qd
def cosH : Nat → Qd
 | 0 => ⟨4, 0, 0, 0⟩
 | 1 => ⟨0, 1, 0, 1⟩
 | 2 => ⟨0, 0, 2, 0⟩
 | 3 => ⟨0, 2, 0, 0⟩
 | 4 => ⟨2, 0, 0, 0⟩
 | 5 => ⟨0, -1, 0, 1⟩
 | _ => ⟨0, 0, 0, 0⟩
def cosT (k : Nat) : Qd :=
 let m := if 12 < k then 24 - k else k
 if 6 < m then (cosH (12 - m)).neg else cosH m
def four (x : S4) : S4 := ((x.add x).add x).add x
theorem cos_four : ∀ k : Fin 24, (four (cosN k.1)).a = ((cosT k.1).a : Rat) ∧ (four (cosN k.1)).b = ((cosT k.1).b : Rat) ∧ (four (cosN k.1)).c = ((cosT k.1).c : Rat) ∧ (four (cosN k.1)).e = ((cosT k.1).d : Rat) := by decide +kernel
theorem cos_small : ∀ k : Fin 24, ((cosT k.1).a.natAbs ≤ 4 ∧ (cosT k.1).b.natAbs ≤ 4) ∧ (cosT k.1).c.natAbs ≤ 4 ∧ (cosT k.1).d.natAbs ≤ 4 := by decide +kernel
def at0 (l : List Int) (k : Nat) : Int := l.getD k 0
def plc (x : Int) : Nat := (x % 24).toNat
theorem plc_lt (x : Int) : plc x < 24 := by unfold plc; omega
def addQ (n : Qd) (x : Int) (c : Qd) : Qd := ⟨n.a + x * c.a, n.b + x * c.b, n.c + x * c.c, n.d + x * c.d⟩
def inN (gs ps : List Int) (j : Int) (i : Nat) (n : Qd) : Nat → Qd
 | 0 => n
 | k + 1 => addQ (inN gs ps j i n k) (2 * at0 gs i * at0 gs k) (cosT (plc (j * (at0 ps i - at0 ps k))))
def normN (gs ps : List Int) (j : Int) : Nat → Qd
 | 0 => .zero
 | i + 1 => inN gs ps j i ⟨(normN gs ps j i).a + 4 * at0 gs i * at0 gs i, (normN gs ps j i).b, (normN gs ps j i).c, (normN gs ps j i).d⟩ i
def worstN (lt : Qd → Qd → Bool) (gs ps : List Int) : Nat → Qd
 | 0 => .zero
 | j + 1 => if j = 0 ∨ lt (worstN lt gs ps j) (normN gs ps ((j : Int) + 1) ps.length) = true then normN gs ps ((j : Int) + 1) ps.length else worstN lt gs ps j
def apartF (p q : Int) : Int := min ((p - q + 24) % 24) ((24 - (p - q + 24) % 24) % 24)
def St := Option (List Int × Qd)
def updS (lt : Qd → Qd → Bool) (gs : List Int) (m : Nat) (ps : List Int) : St → St
 | none => some (ps, worstN lt gs ps m)
 | some (b, x) => if lt (worstN lt gs ps m) x = true then some (ps, worstN lt gs ps m) else some (b, x)
def loopS (f : Nat → St → St) : Nat → St → St
 | 0, s => s
 | n + 1, s => f n (loopS f n s)
def closeB (ap : Int) (ps : List Int) (p : Nat) : Bool := ps.any fun q => decide (apartF p q < ap)
def extS (ap : Int) (U : List Int → St → St) : Nat → List Int → St → St
 | 0, ps, s => U ps s
 | k + 1, ps, s => loopS (fun p s => if closeB ap ps p = true then s else extS ap U k (ps ++ [(p : Int)]) s) (if ps = [] then 1 else 24) s
end Go.Proofs.Plc
namespace Go.Proofs.YtodckaioeomccaaGreat
set_option linter.unusedVariables false
def dec (n : Nat) : List UInt8 := if h : n = 0 then [] else dec (n / 10) ++ [UInt8.ofNat (48 + n % 10)]
termination_by n
decreasing_by omega
theorem dec_zero : dec 0 = [] := by rw [dec]; simp
theorem dec_pos {n : Nat} (h : n ≠ 0) : dec n = dec (n / 10) ++ [UInt8.ofNat (48 + n % 10)] := by rw [dec]; simp [h]
def pad : Nat → Nat → List UInt8
 | 0, _ => []
 | k + 1, r => pad k (r / 10) ++ [UInt8.ofNat (48 + r % 10)]
theorem pad_length : ∀ (k r : Nat), (pad k r).length = k
 | 0, _ => rfl
 | k + 1, r => by rw [pad, List.length_append, pad_length k]; rfl
theorem dec_split : ∀ (k q r : Nat), q ≠ 0 → r < 10 ^ k → dec (q * 10 ^ k + r) = dec q ++ pad k r
 | 0, q, r, hq, hr => by
  have : r = 0 := by simpa using hr
  rw [this]; simp [pad]
 | k + 1, q, r, hq, hr => by
  have hp : 0 < 10 ^ k := Nat.pow_pos (by omega)
  have e : q * 10 ^ (k + 1) + r = (q * 10 ^ k) * 10 + r := by rw [Nat.pow_succ, Nat.mul_assoc]
  have hpos : 0 < q * 10 ^ k := Nat.mul_pos (by omega) hp
  rw [dec_pos (by omega), e, show ((q * 10 ^ k) * 10 + r) / 10 = q * 10 ^ k + r / 10 by omega, show ((q * 10 ^ k) * 10 + r) % 10 = r % 10 by omega,
   dec_split k q (r / 10) hq (by rw [Nat.pow_succ] at hr; omega), pad, List.append_assoc]
theorem pad_zero : ∀ k, pad k 0 = List.replicate k 48
 | 0 => rfl
 | k + 1 => by
  rw [pad, Nat.zero_div, pad_zero k, List.replicate_succ']
  rfl
theorem pad_dec : ∀ (k r : Nat), r < 10 ^ k → (dec r).length ≤ k ∧ pad k r = List.replicate (k - (dec r).length) 48 ++ dec r
 | 0, r, hr => by
  have : r = 0 := by simpa using hr
  rw [this, dec_zero]; simp [pad]
 | k + 1, r, hr => by
  by_cases h0 : r = 0
  ·rw [h0, dec_zero, pad_zero]; simp
  ·obtain ⟨h1, h2⟩ := pad_dec k (r / 10) (by rw [Nat.pow_succ] at hr; omega)
   rw [dec_pos h0, pad, h2, List.length_append]
   have e : k + 1 - ((dec (r / 10)).length + 1) = k - (dec (r / 10)).length := by omega
   constructor
   ·simp; omega
   ·rw [List.length_singleton, e, List.append_assoc]
theorem dec_ne {n : Nat} (h : n ≠ 0) : dec n ≠ [] := by rw [dec_pos h]; simp
def decS (n : Nat) : List UInt8 := if n = 0 then [48] else dec n
def ratS (x : Rat) : List UInt8 := (if x.num < 0 then [45] else []) ++ decS x.num.natAbs ++ (if x.den = 1 then [] else 47 :: decS x.den)
theorem dec_le (n : Nat) : ∀ k, n < 10 ^ k → (dec n).length ≤ k := fun k h => (pad_dec k n h).1
end Go.Proofs.YtodckaioeomccaaGreat
namespace Go.Proofs.YtodckaioeomccaaGreat
open Go.RowKit
set_option linter.unusedVariables false
def RdK {α : Type} (k : Nat) (f : α → List Value) (w : World) (S : Nat → Prop) (v : Value) (xs : List α) : Prop :=
 ∃ A cap, v = .slice A xs.length cap ∧ xs.length ≤ cap ∧ cap ≤ maxLen ∧
  (xs ≠ [] → ∃ b off, A = some ⟨b, off, none⟩ ∧ S b ∧ ∀ (i : Nat) (x : α), xs[i]? = some x → ∀ (j : Nat) (u : Value), (f x)[j]? = some u → w.cell? ⟨b, off + i * k + j, none⟩ = some u)
section
variable {α : Type} {k : Nat} {f : α → List Value} {w w' : World} {S S' : Nat → Prop} {v : Value} {xs : List α}
theorem RdK.keep (h : RdK k f w S v xs) (hk : Keep S w w') : RdK k f w' S v xs := by
 obtain ⟨A, cap, rfl, h1, h2, h3⟩ := h
 refine ⟨A, cap, rfl, h1, h2, fun hn => ?_⟩
 obtain ⟨b, off, rfl, hb, hc⟩ := h3 hn
 exact ⟨b, off, rfl, hb, fun i x hx j u hu => (hk.cell (p := ⟨b, _, none⟩) hb).trans (hc i x hx j u hu)⟩
theorem RdK.mono (h : RdK k f w S v xs) (hs : ∀ k, S k → S' k) : RdK k f w S' v xs := by
 obtain ⟨A, cap, rfl, h1, h2, h3⟩ := h
 refine ⟨A, cap, rfl, h1, h2, fun hn => ?_⟩
 obtain ⟨b, off, rfl, hb, hc⟩ := h3 hn
 exact ⟨b, off, rfl, hs b hb, hc⟩
theorem RdK.lt (h : RdK k f w S v xs) (hf : ∀ x, ∃ u, (f x)[0]? = some u) : RdK k f w (fun b => S b ∧ b < w.heap.size) v xs := by
 obtain ⟨A, cap, rfl, h1, h2, h3⟩ := h
 refine ⟨A, cap, rfl, h1, h2, fun hn => ?_⟩
 obtain ⟨b, off, rfl, hb, hc⟩ := h3 hn
 obtain ⟨x, l, rfl⟩ := List.exists_cons_of_ne_nil hn
 obtain ⟨u, hu⟩ := hf x
 exact ⟨b, off, rfl, ⟨hb, World.block_lt_of_cell? w ⟨b, _, none⟩ (hc 0 x rfl 0 u hu)⟩, hc⟩
theorem RdK.below (h : RdK k f w S v xs) (hf : ∀ x, ∃ u, (f x)[0]? = some u) (hb : Below w.heap.size w w') : RdK k f w' S v xs :=
 (((h.lt hf).mono (S' := fun b => b < w.heap.size ∧ S b) (fun _ hk => ⟨hk.2, hk.1⟩)).keep ((Keep.of_below hb).mono fun _ hk => hk.1)).mono fun _ hk => hk.2
theorem flat_len (hf : ∀ x, (f x).length = k) : ∀ (xs : List α), (xs.flatMap f).length = xs.length * k
 | [] => by simp
 | x :: xs => by rw [List.flatMap_cons, List.length_append, hf, flat_len hf xs, List.length_cons, Nat.add_mul]; omega
theorem flat_at (hf : ∀ x, (f x).length = k) : ∀ (xs : List α) (i : Nat) (x : α), xs[i]? = some x → ∀ (j : Nat) (u : Value), (f x)[j]? = some u → (xs.flatMap f)[i * k + j]? = some u
 | [], i, x, h, _, _, _ => by simp at h
 | y :: xs, 0, x, h, j, u, hu => by
  simp only [List.getElem?_cons_zero, Option.some.injEq] at h
  subst h
  rw [List.flatMap_cons, Nat.zero_mul, Nat.zero_add, List.getElem?_append_left (List.getElem?_eq_some_iff.1 hu).1, hu]
 | y :: xs, i + 1, x, h, j, u, hu => by
  simp only [List.getElem?_cons_succ] at h
  rw [List.flatMap_cons, List.getElem?_append_right (by rw [hf, Nat.add_mul]; omega), hf, show (i + 1) * k + j - k = i * k + j from by rw [Nat.add_mul]; omega]
  exact flat_at hf xs i x h j u hu
theorem RdK.of_own {base : Nat} {e : TypeId} {n : Nat} (hf : ∀ x, (f x).length = k) (h : w.ownsRow base e k v n (xs.flatMap f)) (hn : xs.length = n) : RdK k f w (base ≤ ·) v xs := by
 rcases h.2 with ⟨rfl, rfl⟩ | ⟨g, cap, cur, rfl, hb, hg, h1, h2, h3, h4⟩
 ·exact ⟨none, 0, by rw [hn], by omega, by simp [maxLen], fun h0 => absurd (List.length_eq_zero_iff.1 hn) h0⟩
 ·refine ⟨_, cap, by rw [hn], by omega, h2, fun _ => ⟨g, 0, rfl, hb, fun i x hx j u hu => ?_⟩⟩
  have hat := flat_at hf xs i x hx j u hu
  have hlt := (List.getElem?_eq_some_iff.1 hat).1
  have hc := h.cellAt (i * k + j) (by rw [flat_len hf] at hlt; rw [← hn]; exact hlt)
  rw [Nat.zero_add, hc, hat]
end
end Go.Proofs.YtodckaioeomccaaGreat
