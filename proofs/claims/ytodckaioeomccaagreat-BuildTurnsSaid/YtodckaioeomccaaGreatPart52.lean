/- The walk of BuildTurns, all inputs. -/
import Derived.Test.YtodckaioeomccaaGreatPart46
import Derived.Test.YtodckaioeomccaaGreatPart47
import Derived.Test.YtodckaioeomccaaGreatPart28
import Derived.Test.YtodckaioeomccaaGreatPart43
import Derived.Test.YtodckaioeomccaaGreatPart51
namespace Go.Proofs.YtodckaioeomccaaGreat
open Go.RowKit Go.Proofs.S4P Go.Proofs.ImpP Go.Proofs.TurP
set_option linter.unusedVariables false
set_option linter.unusedSimpArgs false
set_option maxRecDepth 100000
set_option maxHeartbeats 4000000
theorem mx5 : ∀ w, (Builtin.max_ #[35, 35, 35, 35, 35] 35 #[.int .i64 0, .int .i64 0, .int .i64 0, .int .i64 0, .int .i64 0]).run Tryz.prog w = .ok (.int .i64 0) w := fun w => by kernel_rfl
theorem mx3 : ∀ w, (Builtin.max_ #[35, 35, 35] 35 #[.int .i64 0, .int .i64 0, .int .i64 0]).run Tryz.prog w = .ok (.int .i64 0) w := fun w => by kernel_rfl
theorem wsame_yes (v u : Value) (x y : W4) (K L : Nat) (w : World) (hv : RdWv w v x K) (hu : RdWv w u y L) (hK : K ≤ 40000) (hL : L ≤ 40000) (h : x = y) :
  Calls Tryz.prog 44 #[v, u] w fun e w' => e = .returned (.bool true) ∧ Below w.heap.size w w' := by
 have := wsame_any v u x y K L w hv hu hK hL
 rwa [decide_eq_true h] at this
theorem ssame_yes (v u : Value) (x : S4) (K L : Nat) (w : World) (hv : RdS w v x K) (hu : RdS w u x L) (hK : K ≤ 100000) (hL : L ≤ 100000) :
  Calls Tryz.prog 64 #[v, u] w fun e w' => e = .returned (.bool true) ∧ Below w.heap.size w w' := by
 have := ssame_any v u x x K L w hv hu hK hL
 rwa [decide_sub, decide_eq_true rfl] at this
theorem RdP.slice {w : World} {v : Value} {xs : List Sp} (h : RdP w v xs) : ∃ A c, v = .slice A xs.length c := let ⟨A, c, h, _⟩ := h; ⟨A, c, h⟩
theorem grams_take {l : List Sp} (h : ∀ x ∈ l, OkS x) : ∀ k, 0 ≤ gramsS (l.take k) ∧ gramsS (l.take k) ≤ 1000 * l.length := by
 have key : ∀ m : List Sp, (∀ x ∈ m, OkS x) → 0 ≤ gramsS m ∧ gramsS m ≤ 1000 * m.length := fun m => by
  induction m with
  | nil => intro _; exact ⟨Int.le_refl _, Int.le_refl _⟩
  | cons a m ih =>
   intro hm
   obtain ⟨h1, h2⟩ := ih (fun x hx => hm x (List.mem_cons_of_mem _ hx))
   obtain ⟨h3, h4, _⟩ := hm a (List.mem_cons_self ..)
   unfold gramsS at h1 h2 ⊢
   rw [List.map_cons, List.sum_cons, List.length_cons]
   omega
 intro k
 obtain ⟨h1, h2⟩ := key (l.take k) (fun x hx => h x (List.mem_of_mem_take hx))
 have := List.length_take_le' k l
 omega
theorem grams_snoc (l : List Sp) (x : Sp) : gramsS (l ++ [x]) = gramsS l + x.1 := by
 unfold gramsS; rw [List.map_append, List.sum_append]; simp
theorem own_new (w : World) (e : TypeId) : (w.alloc (.cells #[] e)).ownsRow w.heap.size e 2 (.slice (some ⟨w.heap.size, 0, none⟩) 0 0) 0 (([] : List Sp).flatMap spC) :=
 ⟨by simp, .inr ⟨w.heap.size, 0, #[], rfl, Nat.le_refl _, heap_alloc_new w _, Nat.le_refl _, by unfold maxLen; omega, by simp, by simp⟩⟩
set_option maxRecDepth 100000 in
set_option maxHeartbeats 40000000 in
theorem buildTurns_any (v : Value) (xs : List Sp) (u : Value) (ys : List Sp) (o t : Int) (w : World) (hs1 : xs.length < 8796093022208) (hs2 : ys.length < 8796093022208) (h : RdP w v xs) (hx0 : ∀ x ∈ xs, PairWf x) (h' : RdP w u ys) (hy0 : ∀ x ∈ ys, PairWf x) (ho : -9223372036854775808 ≤ o ∧ o ≤ 9223372036854775807) (ht : -9223372036854775808 ≤ t ∧ t ≤ 9223372036854775807) :
  Calls Tryz.prog 12 #[v, u, .int .i64 o, .int .i64 t] w fun e w' => e = .returned (.bool true) ∧ Below w.heap.size w w' := by
 clear hx0 hy0
 obtain ⟨A, n, cap, rfl, hn, hcap, hmax, hcm, -⟩ := h.open_
 obtain ⟨A', m, cap', rfl, hm, hcap', hmax', hcm', -⟩ := h'.open_
 have HV := h0d h
 have HU := h0d h'
 have HN := h0d hn
 have HM := h0d hm
 have hwl : IntKind.i64.wrap ((n : Int) + (m : Int)) = (n : Int) + (m : Int) := IntWalk.i64_in _ (by omega)
 clear h h' hn hm hs1 hs2
 rcases (show 8 < n + m ∨ (¬ 8 < n + m ∧ o < 1) ∨ (¬ 8 < n + m ∧ ¬ o < 1 ∧ 12 < o) ∨ (n + m ≤ 8 ∧ 1 ≤ o ∧ o ≤ 12) by omega) with h1 | ⟨h1, h2⟩ | ⟨h1, h2, h3⟩ | ⟨h8, ho1, ho12⟩
 ·have hb : (8 : Int) < (n : Int) + (m : Int) := by omega
  go_enter Tryz.func12, Tryz.ntmps12
  go_wp2_with fail
  refine (awake_any _).mono ?_
  rintro e w9 ⟨rfl, hbx⟩
  have HBx := h0d hbx
  clear hbx
  go_wp2_with fail
  go_ret
  exact ⟨rfl, HBx.out⟩
 ·have hb : ¬ (8 : Int) < (n : Int) + (m : Int) := by omega
  go_enter Tryz.func12, Tryz.ntmps12
  go_wp2_with fail
  refine (awake_any _).mono ?_
  rintro e w9 ⟨rfl, hbx⟩
  have HBx := h0d hbx
  clear hbx
  go_wp2_with fail
  go_ret
  exact ⟨rfl, HBx.out⟩
 ·have hb : ¬ (8 : Int) < (n : Int) + (m : Int) := by omega
  go_enter Tryz.func12, Tryz.ntmps12
  go_wp2_with fail
  refine (awake_any _).mono ?_
  rintro e w9 ⟨rfl, hbx⟩
  have HBx := h0d hbx
  clear hbx
  go_wp2_with fail
  go_ret
  exact ⟨rfl, HBx.out⟩
 have hb : ¬ (8 : Int) < (n : Int) + (m : Int) := by omega
 have hb' : ¬ 8 < n + m := by omega
 have hno1 : ¬ o < 1 := by omega
 have hno2 : ¬ 12 < o := by omega
 have HNM : Hid (n + m ≤ 8) := h8
 have HO : Hid (1 ≤ o ∧ o ≤ 12) := ⟨ho1, ho12⟩
 have HT0 := h0d ht
 clear hcap hmax hcm hcap' hmax' hcm' h8 ho1 ho12 ho ht
 go_enter Tryz.func12, Tryz.ntmps12
 go_wp2_with fail
 refine (splices_any _ xs w HV.out (by have := HN.out; have := HNM.out; omega)).mono ?_
 rintro e w1 ⟨⟨va, vb, rfl, ha, hb2⟩, j1⟩
 obtain ⟨Aa, ca, rfl⟩ := ha.slice
 obtain ⟨Ab, cb, rfl⟩ := hb2.slice
 have HA1 := h0d ha
 have HB1 := h0d hb2
 have HU1 := h0d (HU.out.below j1)
 have HW1 := h0d j1
 rw [HN.out] at HA1 HB1 ⊢
 clear ha hb2 j1 HU HV
 go_wp2_with fail
 refine (splices_any _ ys w1 HU1.out (by have := HM.out; have := HNM.out; omega)).mono ?_
 rintro e w2 ⟨⟨vc, vd, rfl, ha, hb2⟩, j1⟩
 obtain ⟨Ac, cc, rfl⟩ := ha.slice
 obtain ⟨Ad, cd, rfl⟩ := hb2.slice
 have HA := h0d (HA1.out.below j1)
 have HB := h0d (HB1.out.below j1)
 have HC := h0d ha
 have HD := h0d hb2
 have HW := kU HW1 j1
 rw [HM.out] at HC HD ⊢
 clear ha hb2 j1 HU1 HA1 HB1 HW1
 have HPB := h0d (rspliced_any _ xs w2 HB.out)
 have HPD := h0d (rspliced_any _ ys w2 HD.out)
 clear HB HD
 by_cases hs1 : splE xs = 0
 rotate_left
 ·obtain ⟨z, hz⟩ : ∃ z, z = splE xs := ⟨_, rfl⟩
  rw [← hz] at HPB hs1
  have hzb : (z == 0) = false := beq_false_of_ne hs1
  clear hz HPD
  go_wp2_with fail
  refine HPB.out.mono ?_
  rintro e w3 ⟨rfl, hwx⟩
  obtain rfl := hwx.symm
  clear hwx HPB
  go_wp2_with fail
  refine (awake_any _).mono ?_
  rintro e w9 ⟨rfl, hbx⟩
  have HBx := h0d hbx
  clear hbx
  go_wp2_with fail
  go_ret
  exact ⟨rfl, HW.out.trans (HBx.out.mono HW.out.size)⟩
 rw [hs1] at HPB
 by_cases hs2 : splE ys = 0
 rotate_left
 ·obtain ⟨z, hz⟩ : ∃ z, z = splE ys := ⟨_, rfl⟩
  rw [← hz] at HPD hs2
  have hzb : (z == 0) = false := beq_false_of_ne hs2
  clear hz hs1
  go_wp2_with fail
  refine HPB.out.mono ?_
  rintro e w3 ⟨rfl, hwx⟩
  obtain rfl := hwx.symm
  clear hwx HPB
  go_wp2_with fail
  refine HPD.out.mono ?_
  rintro e w3 ⟨rfl, hwx⟩
  obtain rfl := hwx.symm
  clear hwx HPD
  go_wp2_with fail
  refine (awake_any _).mono ?_
  rintro e w9 ⟨rfl, hbx⟩
  have HBx := h0d hbx
  clear hbx
  go_wp2_with fail
  go_ret
  exact ⟨rfl, HW.out.trans (HBx.out.mono HW.out.size)⟩
 rw [hs2] at HPD
 have HKX := h0d (splE_ok hs1).2
 have HKY := h0d (splE_ok hs2).2
 obtain ⟨r, hr⟩ : ∃ r, r = t.tmod 24 := ⟨_, rfl⟩
 obtain ⟨b, hbb⟩ : ∃ b, b = (r + 24).tmod 24 := ⟨_, rfl⟩
 have hrr : -24 < r ∧ r < 24 := by rw [hr]; exact ⟨Int.lt_tmod_of_pos _ (by decide), Int.tmod_lt_of_pos _ (by decide)⟩
 have HBB : Hid (0 ≤ b ∧ b < 24) := by show _ ∧ _; rw [hbb, Int.tmod_eq_emod_of_nonneg (by omega)]; omega
 have hq1 : IntKind.i64.wrap r = r := IntWalk.i64_in _ (by omega)
 have hq2 : IntKind.i64.wrap (r + 24) = r + 24 := IntWalk.i64_in _ (by omega)
 have hq3 : IntKind.i64.wrap b = b := IntWalk.i64_in _ (by have := HBB.out; omega)
 replace hr := hr.symm
 replace hbb := hbb.symm
 clear hs1 hs2 hrr HT0
 go_wp2_with fail
 refine HPB.out.mono ?_
 rintro e w3 ⟨rfl, hwx⟩
 obtain rfl := hwx.symm
 clear hwx HPB
 go_wp2_with fail
 refine HPD.out.mono ?_
 rintro e w3 ⟨rfl, hwx⟩
 obtain rfl := hwx.symm
 clear hwx HPD
 go_wp2_with fail
 clear hq1 hq2 hq3 hr hbb
 have HGT := h0d (grams_take HKX.out)
 obtain ⟨A9, n9, c9, e1, -, -, -, -, hc⟩ := HA.out.open_
 injection e1 with e1 e2 e3
 subst e1 e2 e3
 have HCL := h0d hc
 clear hc
 go_loopw [13, 14, 15, 71] (fun sa sb gv iv wr => ∃ (k : Nat) (va vb : Value) (g : Int), va = sa ∧ vb = sb ∧ gv = .int .i64 g ∧ k ≤ n ∧ iv = .int .i64 (k : Int) ∧ Hid (g = gramsS (xs.take k)) ∧ Hid (TwoP w2.heap.size 125 va ((xs.take k).map (turnS b)) 125 vb ((xs.take k).map mirS) (fun _ _ => False) w2 wr)) (fun _ _ _ iv _ => n - (intOf iv).toNat)
 case atStart => exact ⟨0, _, _, 0, rfl, rfl, rfl, Nat.zero_le _, rfl, rfl, TwoO.bare _ _ _ _ _ _ (Nat.le_refl _)⟩
 case round =>
  obtain ⟨k, va, vb, g, rfl, rfl, rfl, hk, rfl, HG, HT⟩ := hrel
  by_cases hlt : k < n
  ·obtain ⟨bk, off, x, rfl, hbw, hx, hc1, hc2⟩ := HCL.out k hlt
   have d1 := (HT.out.bel.cell (p := ⟨bk, off + k * 2, none⟩) hbw).trans hc1
   have d2 := (HT.out.bel.cell (p := ⟨bk, off + k * 2 + 1, none⟩) hbw).trans hc2
   have HTK : Hid (xs.take (k + 1) = xs.take k ++ [x]) := take_snoc? hx
   obtain ⟨g1, g2, g3, g4⟩ := HKX.out x (List.mem_of_getElem? hx)
   obtain ⟨p, q⟩ := x
   replace g1 : 1 ≤ p := g1
   replace g2 : p ≤ 1000 := g2
   replace g3 : 0 ≤ q := g3
   replace g4 : q < 24 := g4
   have hgb := HGT.out k
   have hgb2 := HGT.out (k + 1)
   rw [HTK.out, grams_snoc, ← HG.out] at hgb2
   rw [← HG.out] at hgb
   have HKL : Hid (((xs.take k).map (turnS b)).length = k) := by show _ = _; rw [List.length_map, List.length_take]; have := HN.out; omega
   have HKL' : Hid (((xs.take k).map mirS).length = k) := by show _ = _; rw [List.length_map, List.length_take]; have := HN.out; omega
   have HL : Hid (k ≤ 1000) := by show _ ≤ _; have := HNM.out; omega
   replace d1 : wr.cell? ⟨bk, off + k * 2, none⟩ = some (.int .i64 p) := d1
   replace d2 : wr.cell? ⟨bk, off + k * 2 + 1, none⟩ = some (.int .i64 q) := d2
   obtain ⟨q1, hq1⟩ : ∃ q1, q1 = (q + b) % 24 := ⟨_, rfl⟩
   obtain ⟨q2, hq2⟩ : ∃ q2, q2 = (24 - q) % 24 := ⟨_, rfl⟩
   have HQ1 : Hid (turnS b (p, q) = (p, q1)) := by show (p, (q + b) % 24) = _; rw [hq1]
   have HQ2 : Hid (mirS (p, q) = (p, q2)) := by show (p, (24 - q) % 24) = _; rw [hq2]
   have hb0 := HBB.out
   have hn8 := HNM.out
   obtain ⟨g', hg'⟩ : ∃ g', g' = g + p := ⟨_, rfl⟩
   obtain ⟨s1, hs1⟩ : ∃ s, s = q + b := ⟨_, rfl⟩
   obtain ⟨s2, hs2⟩ : ∃ s, s = 24 - q := ⟨_, rfl⟩
   have HG1 : Hid (g' = gramsS (xs.take (k + 1))) := by show _ = _; rw [HTK.out, grams_snoc, ← HG.out, hg']
   have HNX := HN.out
   have k1 : IntKind.i64.wrap (q + b) = s1 := by rw [hs1]; exact IntWalk.i64_in _ (by omega)
   have k2 : s1.tmod 24 = q1 := by rw [hq1, hs1, Int.tmod_eq_emod_of_nonneg (by omega)]
   have k3 : IntKind.i64.wrap q1 = q1 := IntWalk.i64_in _ (by omega)
   have k4 : IntKind.i64.wrap (24 - q) = s2 := by rw [hs2]; exact IntWalk.i64_in _ (by omega)
   have k5 : s2.tmod 24 = q2 := by rw [hq2, hs2, Int.tmod_eq_emod_of_nonneg (by omega)]
   have k6 : IntKind.i64.wrap q2 = q2 := IntWalk.i64_in _ (by omega)
   have k7 : IntKind.i64.wrap (g + p) = g' := by rw [hg']; exact IntWalk.i64_in _ (by omega)
   obtain ⟨A1, c1, e1⟩ := ownsRow_slice HT.out.a
   obtain ⟨A2, c2, e2⟩ := ownsRow_slice HT.out.b
   rw [HKL.out] at e1
   rw [HKL'.out] at e2
   subst e1 e2
   have HT3 := h0d ((HT.out.lay (.cells #[.int .i64 p, .int .i64 q] 125)).lay (.cells #[.int .i64 p, .int .i64 q1] 125))
   clear hc1 hc2 hbw hx HT hq1 hq2 hs1 hs2 hg' hgb hgb2 g1 g2 g3 g4 hb0 hn8 HNX HG
   go_wp2_with (first | (at_builtin; refine wpList_pair 119 Tryz.underlying119 infoS1 rfl _ _ rfl (by rfl) (wr.heap.size + 1) 1 (p, q1) 125 (by rfl) HKL.out HL.out HT3.out (.inr ⟨by simp, rfl⟩) ?_; intro Aa ca1 w5 hT; have e5 := sp_cells (hT.pr _ _ (.inl (.inr ⟨rfl, rfl⟩))).1; obtain ⟨e6, e7⟩ := e5; have HT5 := h0d (hT.swap.lay (.cells #[.int .i64 p, .int .i64 q2] 125)); clear hT d1 d2) | (at_builtin; refine wpList_pair 119 Tryz.underlying119 infoS1 rfl _ _ rfl (by rfl) w5.heap.size 1 (p, q2) 125 (by rfl) HKL'.out HL.out HT5.out (.inr ⟨rfl, rfl⟩) ?_; intro Ab cb1 w6 hT; have e8 := sp_cells (hT.pr _ _ (.inl (.inl (.inr ⟨rfl, rfl⟩)))).1; clear e6 e7; obtain ⟨e6, e7⟩ := e8; have HT6 := h0d (hT.swap.strike (P' := fun _ _ => False) (fun _ _ h => h.elim)); clear hT))
   go_roundw
   case rel => exact ⟨k + 1, _, _, g', rfl, rfl, rfl, by omega, by go_num, HG1, by rw [HTK.out, List.map_append, List.map_append, List.map_singleton, List.map_singleton, HQ1.out, HQ2.out]; exact HT6.out⟩
   case measure => simp [intOf]; omega
  ·obtain rfl : n = k := by omega
   have HTF : Hid (xs.take n = xs) := List.take_of_length_le (by rw [HN.out]; exact Nat.le_refl _)
   rw [HTF.out] at HT HG
   obtain ⟨A1, c1, rfl⟩ := ownsRow_slice HT.out.a
   obtain ⟨A2, c2, rfl⟩ := ownsRow_slice HT.out.b
   have HVT := h0d (own_rdP HT.out.a)
   have HVM := h0d (own_rdP HT.out.b)
   have HA2 := h0d (HA.out.below HT.out.bel)
   have HC2 := h0d (HC.out.below HT.out.bel)
   replace HW := kU HW HT.out.bel
   rw [show (xs.map (turnS b)).length = n from by rw [List.length_map]; exact HN.out] at HVT ⊢
   rw [show (xs.map mirS).length = n from by rw [List.length_map]; exact HN.out] at HVM ⊢
   obtain ⟨wo, rfl⟩ : ∃ wo : World, wo = wr := ⟨_, rfl⟩
   have HGB := HGT.out n
   rw [HTF.out, ← HG.out] at HGB
   have HGB : Hid (0 ≤ g ∧ g ≤ 8000) := ⟨HGB.1, by have := HN.out; have := HNM.out; have := HGB.2; omega⟩
   have hlx : xs.length ≤ 8 := by have := HN.out; have := HNM.out; omega
   have hly : ys.length ≤ 8 := by have := HM.out; have := HNM.out; omega
   have hkt : ∀ x ∈ xs.map (turnS b), OkS x := fun x hx => by
    obtain ⟨y, hy, rfl⟩ := List.mem_map.1 hx
    obtain ⟨a1, a2, a3, a4⟩ := HKX.out y hy
    exact ⟨a1, a2, by show 0 ≤ (y.2 + b) % 24; omega, by show (y.2 + b) % 24 < 24; omega⟩
   have hkm : ∀ x ∈ xs.map mirS, OkS x := fun x hx => by
    obtain ⟨y, hy, rfl⟩ := List.mem_map.1 hx
    obtain ⟨a1, a2, a3, a4⟩ := HKX.out y hy
    exact ⟨a1, a2, by show 0 ≤ (24 - y.2) % 24; omega, by show (24 - y.2) % 24 < 24; omega⟩
   have hky : ∀ x ∈ xs ++ ys, OkS x := fun x hx => (List.mem_append.1 hx).elim (HKX.out x) (HKY.out x)
   have ho0 := HO.out
   have HVA : Hid (∀ W, Below wo.heap.size wo W → Calls Tryz.prog 61 #[.slice Aa n ca, .int .i64 o] W fun e W' => (∃ v', e = .returned (.tuple #[v', .int .i64 0]) ∧ RdWv W' v' (vsum o xs) 300) ∧ Below W.heap.size W W') := fun W hW => vectorE_any _ xs o W (HA2.out.below hW) hlx HKX.out (by omega)
   have HVU : Hid (∀ W, Below wo.heap.size wo W → Calls Tryz.prog 61 #[.slice A1 n c1, .int .i64 o] W fun e W' => (∃ v', e = .returned (.tuple #[v', .int .i64 0]) ∧ RdWv W' v' (vsum o (xs.map (turnS b))) 300) ∧ Below W.heap.size W W') := fun W hW => vectorE_any _ _ o W (HVT.out.below hW) (by rw [List.length_map]; exact hlx) hkt (by omega)
   have HVC : Hid (∀ W, Below wo.heap.size wo W → Calls Tryz.prog 61 #[.slice Ac m cc, .int .i64 o] W fun e W' => (∃ v', e = .returned (.tuple #[v', .int .i64 0]) ∧ RdWv W' v' (vsum o ys) 300) ∧ Below W.heap.size W W') := fun W hW => vectorE_any _ ys o W (HC2.out.below hW) hly HKY.out (by omega)
   have HVY : Hid (∀ W v', RdP W v' (xs ++ ys) → Calls Tryz.prog 61 #[v', .int .i64 o] W fun e W' => (∃ v', e = .returned (.tuple #[v', .int .i64 0]) ∧ RdWv W' v' (vsum o (xs ++ ys)) 300) ∧ Below W.heap.size W W') := fun W v' hW => vectorE_any _ _ o W hW (by rw [List.length_append, HN.out, HM.out]; exact HNM.out) hky (by omega)
   have HVZ : Hid (∀ W, Below wo.heap.size wo W → Calls Tryz.prog 61 #[.slice Aa n ca, .int .i64 0] W fun e W' => (∃ v', e = .returned (.tuple #[v', .int .i64 0]) ∧ RdWv W' v' (vsum 0 xs) 300) ∧ Below W.heap.size W W') := fun W hW => vectorE_any _ xs 0 W (HA2.out.below hW) hlx HKX.out (by omega)
   have HWA : Hid (∀ W, Below wo.heap.size wo W → Calls Tryz.prog 63 #[.slice Aa n ca, .int .i64 o] W fun e W' => (∃ v', e = .returned (.tuple #[v', .int .i64 0]) ∧ RdS W' v' (worstS xs o.toNat) 1209) ∧ Below W.heap.size W W') := fun W hW => worstE_any _ xs o W (HA2.out.below hW) hlx HKX.out ho0
   have HWT : Hid (∀ W, Below wo.heap.size wo W → Calls Tryz.prog 63 #[.slice A1 n c1, .int .i64 o] W fun e W' => (∃ v', e = .returned (.tuple #[v', .int .i64 0]) ∧ RdS W' v' (worstS xs o.toNat) 1209) ∧ Below W.heap.size W W') := fun W hW => by
    have := worstE_any _ _ o W (HVT.out.below hW) (by rw [List.length_map]; exact hlx) hkt ho0
    rwa [worst_same (fun j => norm_turned j b xs)] at this
   have HWM : Hid (∀ W, Below wo.heap.size wo W → Calls Tryz.prog 63 #[.slice A2 n c2, .int .i64 o] W fun e W' => (∃ v', e = .returned (.tuple #[v', .int .i64 0]) ∧ RdS W' v' (worstS xs o.toNat) 1209) ∧ Below W.heap.size W W') := fun W hW => by
    have := worstE_any _ _ o W (HVM.out.below hW) (by rw [List.length_map]; exact hlx) hkm ho0
    rwa [worst_same (fun j => norm_mir j xs)] at this
   have HXT : Hid (vsum o (xs.map (turnS b)) = (vsum o xs).mul (turn (o * b))) := vsum_turn o b xs
   have HXY : Hid (vsum o (xs ++ ys) = (vsum o xs).add (vsum o ys)) := vsum_append o xs ys
   have HXZ : Hid (vsum 0 xs = .ofQ (g : Rat)) := by show _ = _; rw [HG.out]; exact vsum_zero xs
   have HAP : Hid (∀ W, Below wo.heap.size wo W → RdP W (.slice Aa n ca) xs) := fun W hW => HA2.out.below hW
   have HCP : Hid (∀ W, Below wo.heap.size wo W → RdP W (.slice Ac m cc) ys) := fun W hW => HC2.out.below hW
   obtain ⟨X, hX⟩ : ∃ X, X = vsum o xs := ⟨_, rfl⟩
   obtain ⟨T, hT⟩ : ∃ X, X = vsum o (xs.map (turnS b)) := ⟨_, rfl⟩
   obtain ⟨C, hC⟩ : ∃ X, X = vsum o ys := ⟨_, rfl⟩
   obtain ⟨Y, hY⟩ : ∃ X, X = vsum o (xs ++ ys) := ⟨_, rfl⟩
   obtain ⟨Z, hZ⟩ : ∃ X, X = vsum 0 xs := ⟨_, rfl⟩
   obtain ⟨S, hS⟩ : ∃ X, X = worstS xs o.toNat := ⟨_, rfl⟩
   rw [← hX] at HVA HXT HXY
   rw [← hT] at HVU HXT
   rw [← hC] at HVC HXY
   rw [← hY] at HVY HXY
   rw [← hZ] at HVZ HXZ
   rw [← hS] at HWA HWT HWM
   have HOB : Hid (-300 ≤ o * b ∧ o * b ≤ 300) := by
    show _ ∧ _
    have h0 := HBB.out
    have h1 := Int.mul_nonneg (show 0 ≤ o by omega) h0.1
    have h2 := Int.mul_le_mul ho0.2 (show b ≤ 24 by omega) h0.1 (by omega)
    omega
   have hwob : IntKind.i64.wrap (o * b) = o * b := IntWalk.i64_in _ (by have := HOB.out; omega)
   have HBo : Hid (Below wo.heap.size wo wo) := Below.refl _ _
   have HLN : Hid (n ≤ 1000) := by show _ ≤ _; have := HN.out; omega
   have HLN1 : Hid (0 + xs.length = n) := by show _ = _; have := HN.out; omega
   obtain ⟨nm, hnm⟩ : ∃ q, q = n + m := ⟨_, rfl⟩
   have HLM : Hid (nm ≤ 1000) := by show _ ≤ _; have := HNM.out; omega
   have HLM1 : Hid (n + ys.length = nm) := by show _ = _; have := HM.out; omega
   clear hnm
   clear hX hT hC hY hZ hS HT HG HGT HA HC HA2 HC2 HVT HVM HTF HCL hkt hkm hky ho0 hlx hly HKX HKY HO HBB
   clear hlt hk
   have hmx := mx5
   go_wp2_with fail
   refine (HVA.out _ HBo.out).mono ?_
   rintro e wc ⟨⟨vx, rfl, hr⟩, j⟩
   obtain ⟨gca, Aca, kca, cca, gcb, Acb, kcb, ccb, gcc, Acc, kcc, ccc, gcd, Acd, kcd, ccd, Ace, kce, cce, gcf, Acf, kcf, ccf, gcg, Acg, kcg, ccg, gch, Ach, kch, cch, gci, Aci, kci, cci, Acj, kcj, ccj, rfl, hr⟩ := hr.open
   obtain ⟨hTH, Wc, HWc, HBc, jj⟩ := box_new wc 88 (z := [.bool false, .slice none 0 0, .bool false, .slice none 0 0, .bool false, .slice none 0 0, .bool false, .slice none 0 0, .slice none 0 0, .bool false, .slice none 0 0, .bool false, .slice none 0 0, .bool false, .slice none 0 0, .bool false, .slice none 0 0, .slice none 0 0]) (cs := [.bool gca, .slice Aca kca cca, .bool gcb, .slice Acb kcb ccb, .bool gcc, .slice Acc kcc ccc, .bool gcd, .slice Acd kcd ccd, .slice Ace kce cce, .bool gcf, .slice Acf kcf ccf, .bool gcg, .slice Acg kcg ccg, .bool gch, .slice Ach kch cch, .bool gci, .slice Aci kci cci, .slice Acj kcj ccj]) (n := 18) rfl rfl
   obtain ⟨gc, hgc⟩ : ∃ g, g = wc.heap.size := ⟨_, rfl⟩
   have HGc := h0d hgc
   have HXc := kV jj (h0d hr)
   have jx := j.trans (jj.mono j.size)
   replace HBo := kU HBo jx
   clear hr j jj jx hgc HVA
   go_wp2_with (refine wpList_store_mid (by rfl) 88 _ _ (by rfl) wc.heap.size 0 _ (by rfl) (by rfl) (by exact hTH) (by kernel_rfl) (by kernel_rfl) ?_)
   rw [← HWc.out]
   rw [← HGc.out] at HBc ⊢
   clear HGc hTH HWc
   refine (HVU.out _ HBo.out).mono ?_
   rintro e wd ⟨⟨vx, rfl, hr⟩, j⟩
   obtain ⟨gda, Ada, kda, cda, gdb, Adb, kdb, cdb, gdc, Adc, kdc, cdc, gdd, Add, kdd, cdd, Ade, kde, cde, gdf, Adf, kdf, cdf, gdg, Adg, kdg, cdg, gdh, Adh, kdh, cdh, gdi, Adi, kdi, cdi, Adj, kdj, cdj, rfl, hr⟩ := hr.open
   obtain ⟨hTH, Wd, HWd, HBd, jj⟩ := box_new wd 88 (z := [.bool false, .slice none 0 0, .bool false, .slice none 0 0, .bool false, .slice none 0 0, .bool false, .slice none 0 0, .slice none 0 0, .bool false, .slice none 0 0, .bool false, .slice none 0 0, .bool false, .slice none 0 0, .bool false, .slice none 0 0, .slice none 0 0]) (cs := [.bool gda, .slice Ada kda cda, .bool gdb, .slice Adb kdb cdb, .bool gdc, .slice Adc kdc cdc, .bool gdd, .slice Add kdd cdd, .slice Ade kde cde, .bool gdf, .slice Adf kdf cdf, .bool gdg, .slice Adg kdg cdg, .bool gdh, .slice Adh kdh cdh, .bool gdi, .slice Adi kdi cdi, .slice Adj kdj cdj]) (n := 18) rfl rfl
   obtain ⟨gd, hgd⟩ : ∃ g, g = wd.heap.size := ⟨_, rfl⟩
   have HGd := h0d hgd
   have HXd := kV jj (h0d hr)
   have jx := j.trans (jj.mono j.size)
   replace HBo := kU HBo jx
   replace HBc := kB HBc jx
   replace HXc := kV jx HXc
   clear hr j jj jx hgd HVU
   go_wp2_with (refine wpList_store_mid (by rfl) 88 _ _ (by rfl) wd.heap.size 0 _ (by rfl) (by rfl) (by exact hTH) (by kernel_rfl) (by kernel_rfl) ?_)
   rw [← HWd.out]
   rw [← HGd.out] at HBd ⊢
   clear HGd hTH HWd
   refine (HVC.out _ HBo.out).mono ?_
   rintro e wf ⟨⟨vx, rfl, hr⟩, j⟩
   obtain ⟨gfa, Afa, kfa, cfa, gfb, Afb, kfb, cfb, gfc, Afc, kfc, cfc, gfd, Afd, kfd, cfd, Afe, kfe, cfe, gff, Aff, kff, cff, gfg, Afg, kfg, cfg, gfh, Afh, kfh, cfh, gfi, Afi, kfi, cfi, Afj, kfj, cfj, rfl, hr⟩ := hr.open
   obtain ⟨hTH, Wf, HWf, HBf, jj⟩ := box_new wf 88 (z := [.bool false, .slice none 0 0, .bool false, .slice none 0 0, .bool false, .slice none 0 0, .bool false, .slice none 0 0, .slice none 0 0, .bool false, .slice none 0 0, .bool false, .slice none 0 0, .bool false, .slice none 0 0, .bool false, .slice none 0 0, .slice none 0 0]) (cs := [.bool gfa, .slice Afa kfa cfa, .bool gfb, .slice Afb kfb cfb, .bool gfc, .slice Afc kfc cfc, .bool gfd, .slice Afd kfd cfd, .slice Afe kfe cfe, .bool gff, .slice Aff kff cff, .bool gfg, .slice Afg kfg cfg, .bool gfh, .slice Afh kfh cfh, .bool gfi, .slice Afi kfi cfi, .slice Afj kfj cfj]) (n := 18) rfl rfl
   obtain ⟨gf, hgf⟩ : ∃ g, g = wf.heap.size := ⟨_, rfl⟩
   have HGf := h0d hgf
   have HXf := kV jj (h0d hr)
   have jx := j.trans (jj.mono j.size)
   replace HBo := kU HBo jx
   replace HBc := kB HBc jx
   replace HXc := kV jx HXc
   replace HBd := kB HBd jx
   replace HXd := kV jx HXd
   clear hr j jj jx hgf HVC
   have jB : Below Wf.heap.size Wf (Wf.alloc (.cells #[] 125)) := (Below.refl _ _).alloc (Nat.le_refl _) _
   have HOW := h0d (own_new Wf 125)
   have HRA := h0d (HAP.out _ (HBo.out.trans (jB.mono HBo.out.size)))
   have HSB : Hid (Wf.heap.size ≤ (Wf.alloc (.cells #[] 125)).heap.size) := jB.size
   have HJB := h0d jB
   clear jB
   go_wp2_with (first | (refine wpList_store_mid (by rfl) 88 _ _ (by rfl) wf.heap.size 0 _ (by rfl) (by rfl) (by exact hTH) (by kernel_rfl) (by kernel_rfl) ?_; rw [← HWf.out]; rw [← HGf.out] at HBf ⊢; clear HGf hTH HWf) | (at_builtin; refine wpList_pairs rfl _ _ rfl rfl HOW.out rfl HRA.out HLN1.out HLN.out HSB.out ?_; intro v7 w7 ho7 hb7; obtain ⟨A7, c7, rfl⟩ := ownsRow_slice ho7; have HO7 := h0d ho7; have HJ7 := h0d (HJB.out.trans hb7); have HRC := h0d (HCP.out _ (HBo.out.trans (HJ7.out.mono HBo.out.size))); have HS7 : Hid (Wf.heap.size ≤ w7.heap.size) := HJ7.out.size; clear ho7 hb7 HOW HRA HSB HJB) | (at_builtin; refine wpList_pairs rfl _ _ rfl rfl HO7.out rfl HRC.out HLM1.out HLM.out HS7.out ?_; intro v8 w8 ho8 hb8; obtain ⟨A8, c8, rfl⟩ := ownsRow_slice ho8; have HY8 := h0d (own_rdP ho8); have jx := HJ7.out.trans hb8; clear ho8 hb8 HO7 HJ7 HRC HS7))
   replace HBo := kU HBo jx
   replace HBc := kB HBc jx
   replace HXc := kV jx HXc
   replace HBd := kB HBd jx
   replace HXd := kV jx HXd
   replace HBf := kB HBf jx
   replace HXf := kV jx HXf
   clear jx
   have HVY2 : Hid (∀ W, Below w8.heap.size w8 W → Calls Tryz.prog 61 #[.slice A8 nm c8, .int .i64 o] W fun e W' => (∃ v', e = .returned (.tuple #[v', .int .i64 0]) ∧ RdWv W' v' Y 300) ∧ Below W.heap.size W W') := fun W hW => HVY.out W _ (HY8.out.below hW)
   refine (HVY2.out _ (Below.refl _ _)).mono ?_
   rintro e wh ⟨⟨vx, rfl, hr⟩, j⟩
   obtain ⟨gha, Aha, kha, cha, ghb, Ahb, khb, chb, ghc, Ahc, khc, chc, ghd, Ahd, khd, chd, Ahe, khe, che, ghf, Ahf, khf, chf, ghg, Ahg, khg, chg, ghh, Ahh, khh, chh, ghi, Ahi, khi, chi, Ahj, khj, chj, rfl, hr⟩ := hr.open
   obtain ⟨hTH, Wh, HWh, HBh, jj⟩ := box_new wh 88 (z := [.bool false, .slice none 0 0, .bool false, .slice none 0 0, .bool false, .slice none 0 0, .bool false, .slice none 0 0, .slice none 0 0, .bool false, .slice none 0 0, .bool false, .slice none 0 0, .bool false, .slice none 0 0, .bool false, .slice none 0 0, .slice none 0 0]) (cs := [.bool gha, .slice Aha kha cha, .bool ghb, .slice Ahb khb chb, .bool ghc, .slice Ahc khc chc, .bool ghd, .slice Ahd khd chd, .slice Ahe khe che, .bool ghf, .slice Ahf khf chf, .bool ghg, .slice Ahg khg chg, .bool ghh, .slice Ahh khh chh, .bool ghi, .slice Ahi khi chi, .slice Ahj khj chj]) (n := 18) rfl rfl
   obtain ⟨gh, hgh⟩ : ∃ g, g = wh.heap.size := ⟨_, rfl⟩
   have HGh := h0d hgh
   have HXh := kV jj (h0d hr)
   have jx := j.trans (jj.mono j.size)
   replace HBo := kU HBo jx
   replace HBc := kB HBc jx
   replace HXc := kV jx HXc
   replace HBd := kB HBd jx
   replace HXd := kV jx HXd
   replace HBf := kB HBf jx
   replace HXf := kV jx HXf
   clear hr j jj jx hgh HVY2
   clear HY8 HVY
   go_wp2_with (refine wpList_store_mid (by rfl) 88 _ _ (by rfl) wh.heap.size 0 _ (by rfl) (by rfl) (by exact hTH) (by kernel_rfl) (by kernel_rfl) ?_)
   rw [← HWh.out]
   rw [← HGh.out] at HBh ⊢
   clear HGh hTH HWh
   refine (HVZ.out _ HBo.out).mono ?_
   rintro e wk ⟨⟨vx, rfl, hr⟩, j⟩
   obtain ⟨gka, Aka, kka, cka, gkb, Akb, kkb, ckb, gkc, Akc, kkc, ckc, gkd, Akd, kkd, ckd, Ake, kke, cke, gkf, Akf, kkf, ckf, gkg, Akg, kkg, ckg, gkh, Akh, kkh, ckh, gki, Aki, kki, cki, Akj, kkj, ckj, rfl, hr⟩ := hr.open
   obtain ⟨hTH, Wk, HWk, HBk, jj⟩ := box_new wk 88 (z := [.bool false, .slice none 0 0, .bool false, .slice none 0 0, .bool false, .slice none 0 0, .bool false, .slice none 0 0, .slice none 0 0, .bool false, .slice none 0 0, .bool false, .slice none 0 0, .bool false, .slice none 0 0, .bool false, .slice none 0 0, .slice none 0 0]) (cs := [.bool gka, .slice Aka kka cka, .bool gkb, .slice Akb kkb ckb, .bool gkc, .slice Akc kkc ckc, .bool gkd, .slice Akd kkd ckd, .slice Ake kke cke, .bool gkf, .slice Akf kkf ckf, .bool gkg, .slice Akg kkg ckg, .bool gkh, .slice Akh kkh ckh, .bool gki, .slice Aki kki cki, .slice Akj kkj ckj]) (n := 18) rfl rfl
   obtain ⟨gk, hgk⟩ : ∃ g, g = wk.heap.size := ⟨_, rfl⟩
   have HGk := h0d hgk
   have HXk := kV jj (h0d hr)
   have jx := j.trans (jj.mono j.size)
   replace HBo := kU HBo jx
   replace HBc := kB HBc jx
   replace HXc := kV jx HXc
   replace HBd := kB HBd jx
   replace HXd := kV jx HXd
   replace HBf := kB HBf jx
   replace HXf := kV jx HXf
   replace HBh := kB HBh jx
   replace HXh := kV jx HXh
   clear hr j jj jx hgk HVZ
   go_wp2_with (refine wpList_store_mid (by rfl) 88 _ _ (by rfl) wk.heap.size 0 _ (by rfl) (by rfl) (by exact hTH) (by kernel_rfl) (by kernel_rfl) ?_)
   rw [← HWk.out]
   rw [← HGk.out] at HBk ⊢
   clear HGk hTH HWk
   have HBw := HBo
   clear HBo
   go_wp2_with fail
   obtain ⟨W1, hW1⟩ : ∃ W, W = Wk.drew := ⟨_, rfl⟩
   have j101 : Below Wk.heap.size Wk W1 := by rw [hW1]; exact (Below.refl _ _).drew
   replace HBd := kB HBd j101
   replace HBc := kB HBc j101
   replace HBh := kB HBh j101
   replace HBf := kB HBf j101
   replace HBk := kB HBk j101
   refine seq_start (S := fun w' => Hid (w'.rangeAt (gd) 0 [.bool gda, .slice Ada kda cda, .bool gdb, .slice Adb kdb cdb, .bool gdc, .slice Adc kdc cdc, .bool gdd, .slice Add kdd cdd, .slice Ade kde cde, .bool gdf, .slice Adf kdf cdf, .bool gdg, .slice Adg kdg cdg, .bool gdh, .slice Adh kdh cdh, .bool gdi, .slice Adi kdi cdi, .slice Adj kdj cdj] ∧ w'.rangeAt (gc) 0 [.bool gca, .slice Aca kca cca, .bool gcb, .slice Acb kcb ccb, .bool gcc, .slice Acc kcc ccc, .bool gcd, .slice Acd kcd ccd, .slice Ace kce cce, .bool gcf, .slice Acf kcf ccf, .bool gcg, .slice Acg kcg ccg, .bool gch, .slice Ach kch cch, .bool gci, .slice Aci kci cci, .slice Acj kcj ccj] ∧ w'.rangeAt (gh) 0 [.bool gha, .slice Aha kha cha, .bool ghb, .slice Ahb khb chb, .bool ghc, .slice Ahc khc chc, .bool ghd, .slice Ahd khd chd, .slice Ahe khe che, .bool ghf, .slice Ahf khf chf, .bool ghg, .slice Ahg khg chg, .bool ghh, .slice Ahh khh chh, .bool ghi, .slice Ahi khi chi, .slice Ahj khj chj] ∧ w'.rangeAt (gf) 0 [.bool gfa, .slice Afa kfa cfa, .bool gfb, .slice Afb kfb cfb, .bool gfc, .slice Afc kfc cfc, .bool gfd, .slice Afd kfd cfd, .slice Afe kfe cfe, .bool gff, .slice Aff kff cff, .bool gfg, .slice Afg kfg cfg, .bool gfh, .slice Afh kfh cfh, .bool gfi, .slice Afi kfi cfi, .slice Afj kfj cfj] ∧ w'.rangeAt (gk) 0 [.bool gka, .slice Aka kka cka, .bool gkb, .slice Akb kkb ckb, .bool gkc, .slice Akc kkc ckc, .bool gkd, .slice Akd kkd ckd, .slice Ake kke cke, .bool gkf, .slice Akf kkf ckf, .bool gkg, .slice Akg kkg ckg, .bool gkh, .slice Akh kkh ckh, .bool gki, .slice Aki kki cki, .slice Akj kkj ckj])) (by kernel_rfl) (by kernel_rfl) (by rw [← hW1]; exact ⟨blk_all HBd.out, blk_all HBc.out, blk_all HBh.out, blk_all HBf.out, blk_all HBk.out⟩) ?_
   rw [← hW1]
   clear hW1
   iterate 8 refine tk0 (h := ?_)
   refine tkM 88 _ (gd) 0 _ _ (fun _ h => h.out.1) Tryz.underlying88 rfl (by kernel_rfl) (h := ?_)
   refine tkM 88 _ (gc) 0 _ _ (fun _ h => h.out.2.1) Tryz.underlying88 rfl (by kernel_rfl) (h := ?_)
   iterate 3 refine tkG (h := ?_)
   refine sop (h := fun K9 hK9 => ?_)
   go_simp
   refine (turn_any (o * b) _ (by have := HOB.out; omega) (by have := HOB.out; omega)).mono ?_
   rintro e w1 ⟨⟨vx, rfl, hr⟩, j1c⟩
   obtain ⟨g1a, A1a, k1a, c1a, g1b, A1b, k1b, c1b, g1c, A1c, k1c, c1c, g1d, A1d, k1d, c1d, A1e, k1e, c1e, g1f, A1f, k1f, c1f, g1g, A1g, k1g, c1g, g1h, A1h, k1h, c1h, g1i, A1i, k1i, c1i, A1j, k1j, c1j, rfl, hr⟩ := hr.open
   have HR1 := h0d hr
   clear hr
   replace HBd := kB HBd j1c
   replace HBc := kB HBc j1c
   replace HBh := kB HBh j1c
   replace HBf := kB HBf j1c
   replace HBk := kB HBk j1c
   refine ckk hK9 (by exact ⟨blk_all HBd.out, blk_all HBc.out, blk_all HBh.out, blk_all HBf.out, blk_all HBk.out⟩) (h := ?_)
   clear hK9 K9
   refine sop (h := fun K9 hK9 => ?_)
   go_simp
   have jm1 := tt j101 j1c
   replace HXc := kV jm1 HXc
   refine (wmul_any _ _ X (turn (o * b)) 300 3 _ HXc.out HR1.out (by omega) (by omega)).mono ?_
   rintro e w2 ⟨⟨vx, rfl, hr⟩, j2c⟩
   obtain ⟨g2a, A2a, k2a, c2a, g2b, A2b, k2b, c2b, g2c, A2c, k2c, c2c, g2d, A2d, k2d, c2d, A2e, k2e, c2e, g2f, A2f, k2f, c2f, g2g, A2g, k2g, c2g, g2h, A2h, k2h, c2h, g2i, A2i, k2i, c2i, A2j, k2j, c2j, rfl, hr⟩ := hr.open
   have HR2 := h0d hr
   clear hr
   replace HBd := kB HBd j2c
   replace HBc := kB HBc j2c
   replace HBh := kB HBh j2c
   replace HBf := kB HBf j2c
   replace HBk := kB HBk j2c
   refine ckk hK9 (by exact ⟨blk_all HBd.out, blk_all HBc.out, blk_all HBh.out, blk_all HBf.out, blk_all HBk.out⟩) (h := ?_)
   clear hK9 K9
   refine sop (h := fun K9 hK9 => ?_)
   go_simp
   have jm2 := tt jm1 j2c
   replace HXd := kV jm2 HXd
   refine mV (wsame_yes _ _ T (X.mul (turn (o * b))) 300 (300 + 3 + 4 + (300 + 3 + 4) + 1) _ HXd.out HR2.out (by omega) (by omega) HXT.out) fun w3 j3c => ?_
   replace HBd := kB HBd j3c
   replace HBc := kB HBc j3c
   replace HBh := kB HBh j3c
   replace HBf := kB HBf j3c
   replace HBk := kB HBk j3c
   refine ckk hK9 (by exact ⟨blk_all HBd.out, blk_all HBc.out, blk_all HBh.out, blk_all HBf.out, blk_all HBk.out⟩) (h := ?_)
   clear hK9 K9
   refine tkG (h := ?_)
   iterate 2 refine tk0 (h := ?_)
   refine tkM 88 _ (gh) 0 _ _ (fun _ h => h.out.2.2.1) Tryz.underlying88 rfl (by kernel_rfl) (h := ?_)
   refine tkM 88 _ (gc) 0 _ _ (fun _ h => h.out.2.1) Tryz.underlying88 rfl (by kernel_rfl) (h := ?_)
   refine tkM 88 _ (gf) 0 _ _ (fun _ h => h.out.2.2.2.1) Tryz.underlying88 rfl (by kernel_rfl) (h := ?_)
   refine sop (h := fun K9 hK9 => ?_)
   go_simp
   have jm3 := tt j2c j3c
   replace HXc := kV jm3 HXc
   have jm4 := tt jm2 j3c
   replace HXf := kV jm4 HXf
   refine (wadd_any _ _ X C 300 300 _ HXc.out HXf.out (by omega) (by omega)).mono ?_
   rintro e w4 ⟨⟨vx, rfl, hr⟩, j4c⟩
   obtain ⟨g4a, A4a, k4a, c4a, g4b, A4b, k4b, c4b, g4c, A4c, k4c, c4c, g4d, A4d, k4d, c4d, A4e, k4e, c4e, g4f, A4f, k4f, c4f, g4g, A4g, k4g, c4g, g4h, A4h, k4h, c4h, g4i, A4i, k4i, c4i, A4j, k4j, c4j, rfl, hr⟩ := hr.open
   have HR4 := h0d hr
   clear hr
   replace HBd := kB HBd j4c
   replace HBc := kB HBc j4c
   replace HBh := kB HBh j4c
   replace HBf := kB HBf j4c
   replace HBk := kB HBk j4c
   refine ckk hK9 (by exact ⟨blk_all HBd.out, blk_all HBc.out, blk_all HBh.out, blk_all HBf.out, blk_all HBk.out⟩) (h := ?_)
   clear hK9 K9
   refine sop (h := fun K9 hK9 => ?_)
   go_simp
   have jm5 := tt jm4 j4c
   replace HXh := kV jm5 HXh
   refine mV (wsame_yes _ _ Y (X.add C) 300 (300 + 300 + 1) _ HXh.out HR4.out (by omega) (by omega) HXY.out) fun w5 j5c => ?_
   replace HBd := kB HBd j5c
   replace HBc := kB HBc j5c
   replace HBh := kB HBh j5c
   replace HBf := kB HBf j5c
   replace HBk := kB HBk j5c
   refine ckk hK9 (by exact ⟨blk_all HBd.out, blk_all HBc.out, blk_all HBh.out, blk_all HBf.out, blk_all HBk.out⟩) (h := ?_)
   clear hK9 K9
   refine tkG (h := ?_)
   iterate 2 refine tk0 (h := ?_)
   refine tkM 88 _ (gk) 0 _ _ (fun _ h => h.out.2.2.2.2) Tryz.underlying88 rfl (by kernel_rfl) (h := ?_)
   refine tkM 88 _ (gk) 0 _ _ (fun _ h => h.out.2.2.2.2) Tryz.underlying88 rfl (by kernel_rfl) (h := ?_)
   refine tkG (h := ?_)
   refine sop (h := fun K9 hK9 => ?_)
   go_simp
   refine mQ (int_any g _ (by have := HGB.out; omega) (by have := HGB.out; omega)) fun w6 g6a A6a k6a c6a A6b k6b c6b HR6 j6c => ?_
   replace HBd := kB HBd j6c
   replace HBc := kB HBc j6c
   replace HBh := kB HBh j6c
   replace HBf := kB HBf j6c
   replace HBk := kB HBk j6c
   refine ckk hK9 (by exact ⟨blk_all HBd.out, blk_all HBc.out, blk_all HBh.out, blk_all HBf.out, blk_all HBk.out⟩) (h := ?_)
   clear hK9 K9
   refine sop (h := fun K9 hK9 => ?_)
   go_simp
   have jm6 := tt (tt jm5 j5c) j6c
   replace HXk := kV jm6 HXk
   refine (wof_any _ _ Z (g : Rat) 300 1 _ HXk.out HR6.out (qs_int (by have := HGB.out; omega) (by have := HGB.out; omega)) (by omega)).mono ?_
   rintro e w7 ⟨⟨vx, rfl, hr⟩, j7c⟩
   obtain ⟨g7a, A7a, k7a, c7a, g7b, A7b, k7b, c7b, g7c, A7c, k7c, c7c, g7d, A7d, k7d, c7d, A7e, k7e, c7e, g7f, A7f, k7f, c7f, g7g, A7g, k7g, c7g, g7h, A7h, k7h, c7h, g7i, A7i, k7i, c7i, A7j, k7j, c7j, rfl, hr⟩ := hr.open
   have HR7 := h0d hr
   clear hr
   replace HBd := kB HBd j7c
   replace HBc := kB HBc j7c
   replace HBh := kB HBh j7c
   replace HBf := kB HBf j7c
   replace HBk := kB HBk j7c
   refine ckk hK9 (by exact ⟨blk_all HBd.out, blk_all HBc.out, blk_all HBh.out, blk_all HBf.out, blk_all HBk.out⟩) (h := ?_)
   clear hK9 K9
   refine sop (h := fun K9 hK9 => ?_)
   go_simp
   replace HXk := kV j7c HXk
   refine mV (wsame_yes _ _ Z (.ofQ (g : Rat)) 300 1 _ HXk.out HR7.out (by omega) (by omega) HXZ.out) fun w8 j8c => ?_
   replace HBd := kB HBd j8c
   replace HBc := kB HBc j8c
   replace HBh := kB HBh j8c
   replace HBf := kB HBf j8c
   replace HBk := kB HBk j8c
   refine ckk hK9 (by exact ⟨blk_all HBd.out, blk_all HBc.out, blk_all HBh.out, blk_all HBf.out, blk_all HBk.out⟩) (h := ?_)
   clear hK9 K9
   refine tkG (h := ?_)
   refine tk0 (h := ?_)
   refine seq_done (by kernel_rfl) ?_
   have jm7 := tt (tt jm6 j7c) j8c
   replace HBw := kU HBw jm7
   have HBo := HBw
   clear HBw HBc HXc HBd HXd HBf HXf HBh HXh HBk HXk HR1 HR2 HR4 HR6 HR7
   go_wp2_with fail
   refine (HWA.out _ HBo.out).mono ?_
   rintro e wp ⟨⟨vx, rfl, hr⟩, j⟩
   obtain ⟨gpa, Apa, kpa, cpa, gpb, Apb, kpb, cpb, gpc, Apc, kpc, cpc, gpd, Apd, kpd, cpd, Ape, kpe, cpe, rfl, hr⟩ := hr.open
   obtain ⟨hTH, Wp, HWp, HBp, jj⟩ := box_new wp 30 (z := [.bool false, .slice none 0 0, .bool false, .slice none 0 0, .bool false, .slice none 0 0, .bool false, .slice none 0 0, .slice none 0 0]) (cs := [.bool gpa, .slice Apa kpa cpa, .bool gpb, .slice Apb kpb cpb, .bool gpc, .slice Apc kpc cpc, .bool gpd, .slice Apd kpd cpd, .slice Ape kpe cpe]) (n := 9) rfl rfl
   obtain ⟨gp, hgp⟩ : ∃ g, g = wp.heap.size := ⟨_, rfl⟩
   have HGp := h0d hgp
   have HXp := kV jj (h0d hr)
   have jx := j.trans (jj.mono j.size)
   replace HBo := kU HBo jx
   clear hr j jj jx hgp HWA
   go_wp2_with (refine wpList_store_mid (by rfl) 30 _ _ (by rfl) wp.heap.size 0 _ (by rfl) (by rfl) (by exact hTH) (by kernel_rfl) (by kernel_rfl) ?_)
   rw [← HWp.out]
   rw [← HGp.out] at HBp ⊢
   clear HGp hTH HWp
   refine (HWT.out _ HBo.out).mono ?_
   rintro e wq ⟨⟨vx, rfl, hr⟩, j⟩
   obtain ⟨gqa, Aqa, kqa, cqa, gqb, Aqb, kqb, cqb, gqc, Aqc, kqc, cqc, gqd, Aqd, kqd, cqd, Aqe, kqe, cqe, rfl, hr⟩ := hr.open
   obtain ⟨hTH, Wq, HWq, HBq, jj⟩ := box_new wq 30 (z := [.bool false, .slice none 0 0, .bool false, .slice none 0 0, .bool false, .slice none 0 0, .bool false, .slice none 0 0, .slice none 0 0]) (cs := [.bool gqa, .slice Aqa kqa cqa, .bool gqb, .slice Aqb kqb cqb, .bool gqc, .slice Aqc kqc cqc, .bool gqd, .slice Aqd kqd cqd, .slice Aqe kqe cqe]) (n := 9) rfl rfl
   obtain ⟨gq, hgq⟩ : ∃ g, g = wq.heap.size := ⟨_, rfl⟩
   have HGq := h0d hgq
   have HXq := kV jj (h0d hr)
   have jx := j.trans (jj.mono j.size)
   replace HBo := kU HBo jx
   replace HBp := kB HBp jx
   replace HXp := kV jx HXp
   clear hr j jj jx hgq HWT
   go_wp2_with (refine wpList_store_mid (by rfl) 30 _ _ (by rfl) wq.heap.size 0 _ (by rfl) (by rfl) (by exact hTH) (by kernel_rfl) (by kernel_rfl) ?_)
   rw [← HWq.out]
   rw [← HGq.out] at HBq ⊢
   clear HGq hTH HWq
   refine (HWM.out _ HBo.out).mono ?_
   rintro e wr ⟨⟨vx, rfl, hr⟩, j⟩
   obtain ⟨gra, Ara, kra, cra, grb, Arb, krb, crb, grc, Arc, krc, crc, grd, Ard, krd, crd, Are, kre, cre, rfl, hr⟩ := hr.open
   obtain ⟨hTH, Wr, HWr, HBr, jj⟩ := box_new wr 30 (z := [.bool false, .slice none 0 0, .bool false, .slice none 0 0, .bool false, .slice none 0 0, .bool false, .slice none 0 0, .slice none 0 0]) (cs := [.bool gra, .slice Ara kra cra, .bool grb, .slice Arb krb crb, .bool grc, .slice Arc krc crc, .bool grd, .slice Ard krd crd, .slice Are kre cre]) (n := 9) rfl rfl
   obtain ⟨gr, hgr⟩ : ∃ g, g = wr.heap.size := ⟨_, rfl⟩
   have HGr := h0d hgr
   have HXr := kV jj (h0d hr)
   have jx := j.trans (jj.mono j.size)
   replace HBo := kU HBo jx
   replace HBp := kB HBp jx
   replace HXp := kV jx HXp
   replace HBq := kB HBq jx
   replace HXq := kV jx HXq
   clear hr j jj jx hgr HWM
   have HBw := HBo
   clear HBo
   have hmx3 := mx3
   have hL301 := blk_all HBp.out
   have hL302 := blk_all HBq.out
   go_wp2_with (first | (refine wpList_store_mid (by rfl) 30 _ _ (by rfl) wr.heap.size 0 _ (by rfl) (by rfl) (by exact hTH) (by kernel_rfl) (by kernel_rfl) ?_; rw [← HWr.out]; rw [← HGr.out] at HBr ⊢; clear HGr hTH HWr) | (refine wpList_load_midG (by rfl) 30 _ (by rfl) (gp) 0 (by rfl) _ _ (by exact hL301) Tryz.underlying30 rfl (by kernel_rfl) ?_) | (refine wpList_load_midG (by rfl) 30 _ (by rfl) (gq) 0 (by rfl) _ _ (by exact hL302) Tryz.underlying30 rfl (by kernel_rfl) ?_))
   clear hL301 hL302
   refine mV (ssame_yes _ _ S 1209 1209 _ HXp.out HXq.out (by omega) (by omega)) fun w21 j21c => ?_
   replace HBp := kB HBp j21c
   have hL303 := blk_all HBp.out
   replace HBr := kB HBr j21c
   have hL304 := blk_all HBr.out
   go_wp2_with (first | (refine wpList_load_midG (by rfl) 30 _ (by rfl) (gp) 0 (by rfl) _ _ (by exact hL303) Tryz.underlying30 rfl (by kernel_rfl) ?_) | (refine wpList_load_midG (by rfl) 30 _ (by rfl) (gr) 0 (by rfl) _ _ (by exact hL304) Tryz.underlying30 rfl (by kernel_rfl) ?_))
   clear hL303 hL304
   replace HXp := kV j21c HXp
   replace HXr := kV j21c HXr
   refine mV (ssame_yes _ _ S 1209 1209 _ HXp.out HXr.out (by omega) (by omega)) fun w22 j22c => ?_
   go_wp2_with fail
   refine mV (awake_any _) fun w23 j23c => ?_
   go_wp2_with fail
   go_ret
   have jm1 := tt (tt j21c j22c) j23c
   replace HBw := kU HBw jm1
   exact ⟨rfl, HW.out.trans (HBw.out.mono HW.out.size)⟩
end Go.Proofs.YtodckaioeomccaaGreat
