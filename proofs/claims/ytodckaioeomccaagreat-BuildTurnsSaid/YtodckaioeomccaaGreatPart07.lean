/- Lists of splices: pairs of ints in memory. The walk of spliced, where the splices are right. The walk of the reference's Spliced. -/
import Derived.Test.YtodckaioeomccaaGreatPart05
import Derived.Test.YtodckaioeomccaaGreatPart02
import Derived.SizedLaws
import Derived.WalkKit
namespace Go.Proofs.YtodckaioeomccaaGreat
open Go.RowKit Go.ChangeShapes Go.WideShapes Go.Deep Go.Proofs.TurP
set_option linter.unusedVariables false
def RdP (w : World) (v : Value) (xs : List Sp) : Prop :=
 ∃ A cap, v = .slice A xs.length cap ∧ xs.length ≤ cap ∧ cap ≤ maxLen ∧
  (xs ≠ [] → ∃ b off, A = some ⟨b, off, none⟩ ∧ ∀ i x, xs[i]? = some x → w.cell? ⟨b, off + i * 2, none⟩ = some (.int .i64 x.1) ∧ w.cell? ⟨b, off + i * 2 + 1, none⟩ = some (.int .i64 x.2))
theorem RdP.below {w w' : World} {v : Value} {xs : List Sp} (h : RdP w v xs) (hb : Below w.heap.size w w') : RdP w' v xs := by
 obtain ⟨A, cap, rfl, h1, h2, h3⟩ := h
 refine ⟨A, cap, rfl, h1, h2, fun hn => ?_⟩
 obtain ⟨b, off, rfl, hc⟩ := h3 hn
 refine ⟨b, off, rfl, fun i x hx => ?_⟩
 obtain ⟨c0, c1⟩ := hc i x hx
 exact ⟨(hb.cell (p := ⟨b, _, none⟩) (World.block_lt_of_cell? w ⟨b, _, none⟩ c0)).trans c0, (hb.cell (p := ⟨b, _, none⟩) (World.block_lt_of_cell? w ⟨b, _, none⟩ c1)).trans c1⟩
theorem RdP.open_ {w : World} {v : Value} {xs : List Sp} (h : RdP w v xs) :
  ∃ A n cap, v = .slice A n cap ∧ xs.length = n ∧ n ≤ cap ∧ n ≤ 9223372036854775807 ∧ cap ≤ maxLen ∧
   (∀ k, k < n → ∃ b off x, A = some ⟨b, off, none⟩ ∧ b < w.heap.size ∧ xs[k]? = some x ∧ w.cell? ⟨b, off + k * 2, none⟩ = some (.int .i64 x.1) ∧ w.cell? ⟨b, off + k * 2 + 1, none⟩ = some (.int .i64 x.2)) := by
 obtain ⟨A, cap, rfl, h1, h2, h3⟩ := h
 refine ⟨A, xs.length, cap, rfl, rfl, h1, by unfold maxLen at h2; omega, h2, fun k hk => ?_⟩
 obtain ⟨b, off, rfl, hc⟩ := h3 (fun e => by subst e; simp at hk)
 obtain ⟨c0, c1⟩ := hc k _ (List.getElem?_eq_getElem hk)
 exact ⟨b, off, _, rfl, World.block_lt_of_cell? w ⟨b, _, none⟩ c0, List.getElem?_eq_getElem hk, c0, c1⟩
structure PairWf (x : Sp) : Prop where
 a : (Lit.int .i64 x.1).wf = true
 b : (Lit.int .i64 x.2).wf = true
section
variable {H : Type} {enc : TypeId × Value → H} {w : World} {base : Nat} {spare : Nat → Bool} {held : Bool}
theorem open_pair {fuel : Nat} {cs : List Value} {y : DataW H × List MemPlace} (h : DataW.trod enc Tryz.prog w base spare held fuel 176 cs = some y) : ∃ x : Sp, cs = [.int .i64 x.1, .int .i64 x.2] ∧ PairWf x := by
 obtain ⟨ys, n, _, _, hl, hlen, hf⟩ := DataW.trod_array Tryz.underlying176 h
 have o3 : Tryz.prog.cellsOf 3 = 1 := by kernel_rfl
 have o2 : Tryz.prog.cellsOf 176 = 2 := by kernel_rfl
 rw [o3] at hf
 match cs, (show cs.length = 2 from hl.trans o2) with
 | [c0, c1], _ =>
  match ys, (show ys.length = 2 from hlen) with
  | [y0, y1], _ =>
   have h0 : DataW.trod enc Tryz.prog w base spare held n 3 [c0] = some y0 := hf 0 (by decide)
   have h1 : DataW.trod enc Tryz.prog w base spare held n 3 [c1] = some y1 := hf 1 (by decide)
   obtain ⟨a, a1, _, a2⟩ := DataW.trod_int Tryz.underlying3 h0
   obtain ⟨b, b1, _, b2⟩ := DataW.trod_int Tryz.underlying3 h1
   simp at a1 b1
   subst a1 b1
   exact ⟨(a, b), rfl, a2, b2⟩
theorem open_pairs {fuel : Nat} {cs : List Value} {y : DataW H × List MemPlace} (h : DataW.trod enc Tryz.prog w base spare held fuel 118 cs = some y) :
  ∃ v xs, cs = [v] ∧ RdP w v xs ∧ ∀ x ∈ xs, PairWf x := by
 rcases open_slice Tryz.underlying118 h with ⟨rfl, _⟩ | ⟨a, len, cap, m, n, D, Pl, rfl, hb, hl, hcm, hm, _, hx⟩
 ·exact ⟨_, [], rfl, ⟨none, 0, rfl, Nat.le_refl _, by simp [maxLen], fun h => absurd rfl h⟩, by simp⟩
 ·have o2 : Tryz.prog.cellsOf 176 = 2 := by kernel_rfl
  rw [o2] at hx
  have hlm : len ≤ m := by rw [hm]; split <;> omega
  have hA : ∀ i, i < len → ∃ x : Sp, w.cells? base (a.add (i * 2)) 2 = some [.int .i64 x.1, .int .i64 x.2] ∧ PairWf x := fun i hi => by
   obtain ⟨cs', h1, h2⟩ := hx i (by omega)
   obtain ⟨x, rfl, h3⟩ := open_pair h2
   exact ⟨x, h1, h3⟩
  obtain ⟨xs, hxl, hxs⟩ := list_of_lt hA
  refine ⟨_, xs, rfl, ⟨some a, cap, by rw [hxl], by omega, hcm, fun hne => ?_⟩, fun y hy => ?_⟩
  ·obtain ⟨x, l, hxx⟩ := List.exists_cons_of_ne_nil hne
   obtain ⟨b, off, spot⟩ := a
   have hs : spot = none := by
    obtain ⟨h1, _⟩ := hxs 0 x (by rw [hxx]; rfl)
    have := (World.cells?_some h1).2.2 0 (by omega)
    simpa [Addr.add] using World.cell?_spot this
   subst hs
   refine ⟨b, off, rfl, fun i x hi => ?_⟩
   obtain ⟨h1, _⟩ := hxs i x hi
   have hc := (World.cells?_some h1).2.2
   have c0 := hc 0 (by omega); have c1 := hc 1 (by omega)
   simp only [addr_add, Nat.add_zero] at c0 c1
   exact ⟨c0, c1⟩
  ·obtain ⟨i, hi, rfl⟩ := List.mem_iff_getElem.1 hy
   exact (hxs i _ (List.getElem?_eq_getElem hi)).2
theorem pairs_small {ts : List TypeId} {ds : List (DataW H)} {j fuel len cap : Nat} {a : Option Addr} {d : DataW H} {p : List MemPlace} (hz : (DataW.weightsEach Tryz.prog ts ds).all (· ≤ reachBytes) = true) (ht : ts[j]? = some 118) (hd : ds[j]? = some d)
  (h : DataW.trod enc Tryz.prog w base spare held fuel 118 [.slice a len cap] = some (d, p)) : len < 8796093022208 := by
 rcases open_slice Tryz.underlying118 h with ⟨e, _⟩ | ⟨ad, l, c, m, n, D, Pl, e, _, _, _, _, e2, _⟩
 ·simp at e; omega
 ·simp only [Prod.mk.injEq] at e2
  obtain ⟨rfl, _⟩ := e2
  have h1 := sized_slice hz ht hd Tryz.underlying118
  have h2 := reachBytes_lt
  have h3 : Tryz.prog.bytesOf 176 = 16 := by kernel_rfl
  simp at e
  rw [h3, List.length_map, List.length_range] at h1
  omega
end
end Go.Proofs.YtodckaioeomccaaGreat
namespace Go.Proofs.YtodckaioeomccaaGreat
open Go.RowKit Go.Proofs.TurP
set_option linter.unusedVariables false
set_option linter.unusedSimpArgs false
def OkS (x : Sp) : Prop := 1 ≤ x.1 ∧ x.1 ≤ 1000 ∧ 0 ≤ x.2 ∧ x.2 < 24
theorem enters_spl1 : ∀ args w, (callFunc 214 args).run Tryz.prog w = .ok (.enter 214 args) w := enters_of Tryz.func214 (by kernel_rfl) rfl
set_option maxRecDepth 100000 in
theorem spl1_any (x : Sp) (w : World) (hx : OkS x) : Calls Tryz.prog 214 #[.agg #[.int .i64 x.1, .int .i64 x.2]] w fun e w' => e = .returned (.bool false) ∧ Below w.heap.size w w' := by
 obtain ⟨h1, h2, h3, h4⟩ := hx
 obtain ⟨p, q⟩ := x
 have hB : Below w.heap.size w (w.alloc (.cells #[.int .i64 p, .int .i64 q] 125)) := (Below.refl _ _).alloc (Nat.le_refl _) _
 have HB := h0d hB
 have k1 : ¬ p < 1 := by have : 1 ≤ p := h1; omega
 have k2 : ¬ 1000 < p := by have : p ≤ 1000 := h2; omega
 have k3 : ¬ q < 0 := by have : 0 ≤ q := h3; omega
 have k4 : ¬ 24 ≤ q := by have : q < 24 := h4; omega
 clear hB h1 h2 h3 h4
 go_enter Tryz.func214, Tryz.ntmps214
 go_wp2_with fail
 go_ret
 exact ⟨rfl, HB.out⟩
set_option maxRecDepth 100000 in
set_option maxHeartbeats 1000000 in
theorem idxP_none (v : Value) (xs : List Sp) (w : World) (hv : RdP w v xs) (hok : ∀ x ∈ xs, OkS x) :
  Calls Tryz.prog 251 #[v, .func (.func 214) #[] #[]] w fun e w' => e = .returned (.int .i64 (-1)) ∧ Below w.heap.size w w' := by
 obtain ⟨A, n, cap, rfl, hn, hcap, hmax, hcm, hc⟩ := hv.open_
 have HC := h0d hc
 have HF := h0d hok
 have eg := enters_spl1
 clear hn hc hv hcm hok
 go_enter Tryz.func251, Tryz.ntmps251
 go_wp2_with fail
 go_loopw [8] (fun i wr => ∃ k : Nat, k ≤ n ∧ i = .int .i64 (k : Int) ∧ Hid (Below w.heap.size w wr)) (fun i _ => n - (intOf i).toNat)
 case atStart => exact ⟨0, by omega, rfl, Below.refl _ _⟩
 case round =>
  obtain ⟨k, hk, rfl, HB⟩ := hrel
  by_cases hlt : k < n
  ·obtain ⟨b, off, x, rfl, hbw, hx, hc1, hc2⟩ := HC.out k hlt
   have c1 := (HB.out.cell (p := ⟨b, off + k * 2, none⟩) hbw).trans hc1
   have c2 := (HB.out.cell (p := ⟨b, off + k * 2 + 1, none⟩) hbw).trans hc2
   have HCO := h0d (spl1_any x wr (HF.out x (List.mem_of_getElem? hx)))
   clear hc1 hc2 hx hbw
   go_wp2_with fail
   refine HCO.out.mono ?_
   rintro e w1 ⟨rfl, hb1⟩
   have HB1 := h0d (HB.out.trans (hb1.mono HB.out.size))
   clear hb1
   go_wp2_with fail
   go_roundw
   case rel => exact ⟨k + 1, by omega, by go_num, HB1⟩
   case measure => simp [intOf]; omega
  ·go_wp2_with fail
   go_ret
   exact ⟨rfl, HB.out⟩
set_option maxRecDepth 100000 in
theorem spliced_ok (v : Value) (xs : List Sp) (w : World) (hv : RdP w v xs) (h8 : xs.length ≤ 8) (hok : ∀ x ∈ xs, OkS x) :
  Calls Tryz.prog 149 #[v] w fun e w' => e = .returned (.int .i64 0) ∧ Below w.heap.size w w' := by
 have HI := h0d (idxP_none v xs w hv hok)
 have HCF : Hid (Calls Tryz.prog 215 #[v, .func (.func 214) #[] #[]] w fun e w' => e = .returned (.bool false) ∧ Below w.heap.size w w') := by
  show Calls _ _ _ _ _
  clear hv hok h8
  go_enter Tryz.func215, Tryz.ntmps215
  go_wp2_with fail
  refine HI.out.mono ?_
  rintro e w1 ⟨rfl, hb⟩
  go_wp2_with fail
  go_ret
  exact ⟨rfl, hb⟩
 obtain ⟨A, n, cap, rfl, hn, hcap, hmax, hcm, hc⟩ := hv.open_
 have hb : ¬ (8 : Int) < (n : Int) := by omega
 have hb2 : ¬ 8 < n := by omega
 clear hc hv hok hn h8 HI hcm
 go_enter Tryz.func149, Tryz.ntmps149
 go_wp2_with fail
 refine HCF.out.mono ?_
 rintro e w1 ⟨rfl, hb⟩
 go_wp2_with fail
 go_ret
 exact ⟨rfl, hb⟩
end Go.Proofs.YtodckaioeomccaaGreat
namespace Go.Proofs.YtodckaioeomccaaGreat
open Go.RowKit Go.Proofs.TurP
set_option linter.unusedVariables false
set_option linter.unusedSimpArgs false
instance decOkS (x : Sp) : Decidable (OkS x) := by unfold OkS; infer_instance
def splE (xs : List Sp) : Int := if 8 < xs.length then 4 else if ∀ x ∈ xs, OkS x then 0 else 1
theorem splE_ok {xs : List Sp} (h : splE xs = 0) : xs.length ≤ 8 ∧ ∀ x ∈ xs, OkS x := by
 unfold splE at h
 split at h
 ·simp at h
 ·split at h
  ·rename_i h1 h2; exact ⟨by omega, h2⟩
  ·simp at h
set_option maxRecDepth 100000 in
set_option maxHeartbeats 2000000 in
theorem rspliced_any (v : Value) (xs : List Sp) (w : World) (h : RdP w v xs) :
  Calls Tryz.prog 60 #[v] w fun e w' => e = .returned (.int .i64 (splE xs)) ∧ w' = w := by
 obtain ⟨A, n, cap, rfl, hn, hcap, hmax, hcm, hc⟩ := h.open_
 by_cases h8 : 8 < n
 ·have HE : Hid (splE xs = 4) := if_pos (by omega)
  rw [HE.out]
  have hb : (8 : Int) < (n : Int) := by omega
  clear h hc hn hcm HE
  go_enter Tryz.func60, Tryz.ntmps60
  go_wp2_with fail
  go_ret
  exact ⟨rfl, rfl⟩
 ·have HC := h0d hc
  have hb : ¬ (8 : Int) < (n : Int) := by omega
  have HE1 : Hid (∀ (k : Nat) (x : Sp), xs[k]? = some x → ¬ OkS x → splE xs = 1) := fun k x hx hno => by
   unfold splE
   rw [if_neg (by omega), if_neg (fun hall => hno (hall x (List.mem_of_getElem? hx)))]
  have HE0 : Hid ((∀ (k : Nat) (x : Sp), k < n → xs[k]? = some x → OkS x) → splE xs = 0) := fun hall => by
   unfold splE
   rw [if_neg (by omega), if_pos (fun x hx => by
    obtain ⟨i, hi, rfl⟩ := List.mem_iff_getElem.1 hx
    exact hall i _ (by omega) (List.getElem?_eq_getElem hi))]
  obtain ⟨r, hr⟩ : ∃ r, r = splE xs := ⟨_, rfl⟩
  rw [← hr] at HE0 ⊢
  have HE1' : Hid (∀ (k : Nat) (x : Sp), xs[k]? = some x → ¬ OkS x → r = 1) := by rw [hr]; exact HE1.out
  clear h hc hn hcm HE1 hr
  go_enter Tryz.func60, Tryz.ntmps60
  go_wp2_with fail
  go_loop [3] (fun iv => ∃ k : Nat, k ≤ n ∧ iv = .int .i64 (k : Int) ∧ Hid (∀ (j : Nat) (x : Sp), j < k → xs[j]? = some x → OkS x)) (fun iv => n - (intOf iv).toNat)
  case atStart => exact ⟨0, by omega, rfl, fun j x hj => absurd hj (by omega)⟩
  case round =>
   obtain ⟨k, hk, rfl, HK⟩ := hrel
   by_cases hlt : k < n
   ·obtain ⟨b, off, x, rfl, hbw, hx, hc1, hc2⟩ := HC.out k hlt
    have HX := h0d hx
    obtain ⟨g, p⟩ := x
    have hwk : IntKind.i64.wrap (k : Int) = (k : Int) := IntWalk.i64_in _ (by omega)
    replace hc1 : w.cell? ⟨b, off + k * 2, none⟩ = some (.int .i64 g) := hc1
    replace hc2 : w.cell? ⟨b, off + k * 2 + 1, none⟩ = some (.int .i64 p) := hc2
    clear hx
    by_cases h1 : g < 1
    ·have HR := h0d (HE1'.out k _ HX.out (fun ⟨a, _⟩ => by have : 1 ≤ g := a; omega))
     go_wp2_with fail
     go_ret
     exact ⟨ret_int HR.out.symm, rfl⟩
    ·by_cases h2 : 1000 < g
     ·have HR := h0d (HE1'.out k _ HX.out (fun ⟨_, a, _⟩ => by have : g ≤ 1000 := a; omega))
      go_wp2_with fail
      go_ret
      exact ⟨ret_int HR.out.symm, rfl⟩
     ·by_cases h3 : p < 0
      ·have HR := h0d (HE1'.out k _ HX.out (fun ⟨_, _, a, _⟩ => by have : 0 ≤ p := a; omega))
       go_wp2_with fail
       go_ret
       exact ⟨ret_int HR.out.symm, rfl⟩
      ·by_cases h4 : 24 ≤ p
       ·have HR := h0d (HE1'.out k _ HX.out (fun ⟨_, _, _, a⟩ => by have : p < 24 := a; omega))
        go_wp2_with fail
        go_ret
        exact ⟨ret_int HR.out.symm, rfl⟩
       ·have HK1 : Hid (∀ (j : Nat) (x : Sp), j < k + 1 → xs[j]? = some x → OkS x) := fun j y hj hy => by
         rcases Nat.lt_or_ge j k with h | h
         ·exact HK.out j y h hy
         ·obtain rfl : j = k := by omega
          obtain rfl := Option.some.inj (HX.out.symm.trans hy)
          exact ⟨by show 1 ≤ g; omega, by show g ≤ 1000; omega, by show 0 ≤ p; omega, by show p < 24; omega⟩
        go_wp2_with fail
        go_round
        case rel => exact ⟨k + 1, by omega, by go_num, HK1⟩
        case measure => simp [intOf]; omega
   ·obtain rfl : n = k := by omega
    have HR := h0d (HE0.out HK.out)
    go_wp2_with fail
    go_ret
    exact ⟨ret_int HR.out.symm, rfl⟩
end Go.Proofs.YtodckaioeomccaaGreat
