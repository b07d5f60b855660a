/- The walk of BuildImpulses, all inputs. -/
import Derived.Test.YtodckaioeomccaaGreatPart39
import Derived.Test.YtodckaioeomccaaGreatPart40
import Derived.Test.YtodckaioeomccaaGreatPart31
import Derived.Test.YtodckaioeomccaaGreatPart46
namespace Go.Proofs.YtodckaioeomccaaGreat
open Go.RowKit Go.Proofs.S4P Go.Proofs.ImpP
set_option linter.unusedVariables false
set_option linter.unusedSimpArgs false
set_option maxRecDepth 100000
set_option maxHeartbeats 4000000
theorem put_all {vs : List Value} (hl : vs.length = 18) : putL 0 vs [.bool false, .slice none 0 0, .bool false, .slice none 0 0, .bool false, .slice none 0 0, .bool false, .slice none 0 0, .slice none 0 0, .bool false, .slice none 0 0, .bool false, .slice none 0 0, .bool false, .slice none 0 0, .bool false, .slice none 0 0, .slice none 0 0] = vs := by
  match vs, hl with
  | [_, _, _, _, _, _, _, _, _, _, _, _, _, _, _, _, _, _], _ => rfl
theorem tot_store {wa W : World} {e : TypeId} {k K : Nat} {va : Option (Value × Nat × List Value)} {bl : List (Nat × Obj)} {g : Nat} {vs : List Value} {x : W4} (hG : Hid (Fr wa W e k va bl)) (hm : (g, Obj.cells #[.bool false, .slice none 0 0, .bool false, .slice none 0 0, .bool false, .slice none 0 0, .bool false, .slice none 0 0, .slice none 0 0, .bool false, .slice none 0 0, .bool false, .slice none 0 0, .bool false, .slice none 0 0, .bool false, .slice none 0 0, .slice none 0 0] 88 (0, 0)) ∈ bl)
    (hR : Hid (RdWv W (.agg vs.toArray) x K)) (hl : vs.length = 18) (hv : vs.all notWB = true) : Hid (TotIs (W.setCells g 0 vs) g x K) ∧ Hid (Below wa.heap.size wa (W.setCells g 0 vs)) := by
  obtain ⟨h1, h2, _⟩ := hG.out.blk g _ hm
  obtain ⟨W', hW⟩ : ∃ W', W' = W.setCells g 0 vs := ⟨_, rfl⟩
  rw [← hW]
  have hS := kM (show Hid _ from hW)
  have hT := kN hS (show Hid _ from h2) (by rfl) hv
  have hB := kP (ds := vs) hS (cs := [.bool false, .slice none 0 0, .bool false, .slice none 0 0, .bool false, .slice none 0 0, .bool false, .slice none 0 0, .slice none 0 0, .bool false, .slice none 0 0, .bool false, .slice none 0 0, .bool false, .slice none 0 0, .bool false, .slice none 0 0, .slice none 0 0]) (show Hid _ from h2) (by rw [hl]; rfl) (put_all hl)
  refine ⟨⟨_, hB.out, hR.out.wd hT⟩, ?_⟩
  show Below _ _ _
  rw [hS]
  exact sets_below h1 hG.out.bel
theorem fr_there {wa W : World} {e : TypeId} {k : Nat} {va : Option (Value × Nat × List Value)} {bl : List (Nat × Obj)} {g : Nat} (hG : Hid (Fr wa W e k va bl)) (hm : (g, Obj.cells #[.bool false, .slice none 0 0, .bool false, .slice none 0 0, .bool false, .slice none 0 0, .bool false, .slice none 0 0, .slice none 0 0, .bool false, .slice none 0 0, .bool false, .slice none 0 0, .bool false, .slice none 0 0, .bool false, .slice none 0 0, .slice none 0 0] 88 (0, 0)) ∈ bl) : W.there g 0 18 :=
  blk_there (hG.out.blk g _ hm).2.1 (Nat.le_of_ble_eq_true rfl)
/-- One more place: ints of the row. -/
theorem opI {P : Program} {ops : Array Oper} {Q : Exit → Act → World → Prop} {S : World → Prop} {rest : List (Nat × Oper)} {a : Act} {wa W : World} {bl : List (Nat × Obj)} {K : Act → World → Prop} {o : Oper} {v : Value} {n : Nat} {cs : List Value}
    (hP : P = Tryz.prog) (hK : Shut (∀ a w, S w → Seq P ops Q S rest a w → K a w)) (hG : Hid (Fr wa W 3 1 (some (v, n, cs)) bl)) (hS : ∀ W', Below wa.heap.size wa W' → S W')
    (ad : Addr) (m c : Nat) (news : List Int) (hl : news.length = m) (hnews : ∀ j u, (news.map intV)[j]? = some u → W.cell? (ad.add j) = some u) (nn : Nat) (hnn : n + m = nn) (hn : nn ≤ 100000)
    (s x : Operand) (hg : o.guard = none := by rfl) (ho : o.op = .call { callee := .builtin .append, args := #[s, x], argTypes := #[22, 22] } := by rfl) (hs : a.eval s = v := by rfl) (hx : a.eval x = .slice (some ad) m c := by rfl)
    (h : ∀ A c' W', Hid (Fr wa W' 3 1 (some (.slice A nn c', nn, cs ++ news.map intV)) bl) → Seq P ops Q S rest (a.put o.dst (.slice A nn c')) W') : Oper.wp P o a W K Q := by
  subst hP hnn
  obtain ⟨i0, hi0, hz0, hz1, hz2⟩ := info_parts info3
  exact opA hK hG hS 22 Tryz.underlying22 hi0 hz0 hz1 hz2 rfl (by decide) (by decide) ad m c (news.map intV) (by simp [hl]) hnews (fun u hu => by obtain ⟨z, _, rfl⟩ := List.mem_map.1 hu; rfl) hn s x hg ho hs hx h
theorem blk_one {w : World} {g : Nat} {p : Int} (h : w.heap[g]? = some (.cells #[.int .i64 p] 3 (0, 0))) (j : Nat) (u : Value) (hu : ([p].map intV)[j]? = some u) : w.cell? ((⟨g, 0, none⟩ : Addr).add j) = some u := by
  rw [addr_add, Nat.zero_add, blk_cell h]
  cases j with
  | zero => exact hu
  | succ j => simp at hu
theorem wsame_yes (v u : Value) (x y : W4) (K L : Nat) (w : World) (hv : RdWv w v x K) (hu : RdWv w u y L) (hK : K ≤ 40000) (hL : L ≤ 40000) (h : x = y) :
    Calls Tryz.prog 44 #[v, u] w fun e w' => e = .returned (.bool true) ∧ Below w.heap.size w w' := by
  have := wsame_any v u x y K L w hv hu hK hL
  rwa [decide_eq_true h] at this
theorem own_ints {w : World} {B n : Nat} {v : Value} {l : List Int} {cs : List Value} (h : w.ownsRow B 3 1 v n cs) (hc : cs = l.map intV) : RdL w v l := by
  subst hc
  have hn : n = l.length := by have := h.1; simpa using this.symm
  subst hn
  exact (Rd.of_own (f := intV) (xs := l) h).mono fun _ _ => trivial
set_option maxHeartbeats 40000000 in
theorem buildImpulses_any (v : Value) (l : List Int) (o : Int) (w : World) (h : RdL w v l) (ho : -9223372036854775808 ≤ o ∧ o ≤ 9223372036854775807) :
    Calls Tryz.prog 9 #[v, .int .i64 o] w fun e w' => e = .returned (.bool true) ∧ Below w.heap.size w w' := by
  have HP1 := Lib.hid (rpitched_any v l w h)
  by_cases hp : pitchE l = 0
  rotate_left
  · obtain ⟨pe, hpe⟩ : ∃ p, p = pitchE l := ⟨_, rfl⟩
    rw [← hpe] at HP1 hp
    have hpb : (pe == 0) = false := beq_false_of_ne hp
    obtain ⟨A, cap, rfl, -⟩ := h.at_
    clear h hpe
    go_enter Tryz.func9, Tryz.ntmps9
    go_wp2_with fail
    refine HP1.out.mono ?_
    rintro e w0 ⟨rfl, hwx⟩
    obtain rfl := hwx.symm
    clear hwx HP1
    go_wp2_with fail
    refine (awake_any _).mono ?_
    rintro e w1 ⟨rfl, hbx⟩
    have HB := Lib.hid hbx
    clear hbx
    go_wp2_with fail
    go_ret
    exact ⟨rfl, HB.out⟩
  obtain ⟨⟨hl1, hl12⟩, hsm⟩ := pitch_parts hp
  have HTO := Lib.hid (total_any v l w h hl12 hsm)
  rw [hp] at HP1
  by_cases hs : l.sum = 24 ∧ 0 ≤ o ∧ o ≤ 12
  rotate_left
  · obtain ⟨s, hss⟩ : ∃ s, s = l.sum := ⟨_, rfl⟩
    rw [← hss] at HTO hs
    obtain ⟨A, cap, rfl, -⟩ := h.at_
    clear h hss hp hsm hl1 hl12
    go_enter Tryz.func9, Tryz.ntmps9
    go_wp2_with fail
    refine HP1.out.mono ?_
    rintro e w0 ⟨rfl, hwx⟩
    obtain rfl := hwx.symm
    clear hwx HP1
    go_wp2_with fail
    refine HTO.out.mono ?_
    rintro e w0 ⟨rfl, hwx⟩
    obtain rfl := hwx.symm
    clear hwx HTO
    rcases (show s ≠ 24 ∨ (s = 24 ∧ o < 0) ∨ (s = 24 ∧ ¬ o < 0 ∧ 12 < o) by omega) with h1 | ⟨h1, h2⟩ | ⟨h1, h2, h3⟩
    · have hsb : (s == 24) = false := beq_false_of_ne h1
      clear hs
      go_wp2_with fail
      refine (awake_any _).mono ?_
      rintro e w1 ⟨rfl, hbx⟩
      have HB := Lib.hid hbx
      clear hbx
      go_wp2_with fail
      go_ret
      exact ⟨rfl, HB.out⟩
    · subst h1
      clear hs
      go_wp2_with fail
      refine (awake_any _).mono ?_
      rintro e w1 ⟨rfl, hbx⟩
      have HB := Lib.hid hbx
      clear hbx
      go_wp2_with fail
      go_ret
      exact ⟨rfl, HB.out⟩
    · subst h1
      clear hs
      go_wp2_with fail
      refine (awake_any _).mono ?_
      rintro e w1 ⟨rfl, hbx⟩
      have HB := Lib.hid hbx
      clear hbx
      go_wp2_with fail
      go_ret
      exact ⟨rfl, HB.out⟩
  obtain ⟨hs24, ho0, ho12⟩ := hs
  rw [hs24] at HTO
  obtain ⟨p, r, rfl⟩ : ∃ p r, l = p :: r := List.exists_cons_of_length_pos hl1
  have hpr : p + r.sum = 24 := by rw [← hs24, List.sum_cons]
  have hpp := hsm p (List.mem_cons_self ..)
  have hpt : pitchE (r ++ [p]) = 0 := by
    refine pitchE_ok (by rw [List.length_append]; simp at hl12 ⊢; omega) fun x hx => ?_
    rcases List.mem_append.1 hx with hx | hx
    · exact hsm x (List.mem_cons_of_mem _ hx)
    · rw [List.mem_singleton.1 hx]; exact hpp
  have hst : (r ++ [p]).sum = 24 := by rw [List.sum_append]; simp; omega
  have HIA : Hid (∀ W, Below w.heap.size w W → Calls Tryz.prog 43 #[v, .int .i64 o] W fun e W' => (∃ v', e = .returned (.tuple #[v', .int .i64 0]) ∧ RdWv W' v' (wsum o 0 (p :: r)) 60) ∧ Below W.heap.size W W') := fun W hW => impulses_ok v (p :: r) o W (h.below hW) hp hs24 ⟨ho0, ho12⟩
  have HI0 : Hid (∀ W, Below w.heap.size w W → Calls Tryz.prog 43 #[v, .int .i64 0] W fun e W' => (∃ v', e = .returned (.tuple #[v', .int .i64 0]) ∧ RdWv W' v' (wsum 0 0 (p :: r)) 60) ∧ Below W.heap.size W W') := fun W hW => impulses_ok v (p :: r) 0 W (h.below hW) hp hs24 ⟨by omega, by omega⟩
  have HIT : Hid (∀ W v', RdL W v' (r ++ [p]) → Calls Tryz.prog 43 #[v', .int .i64 o] W fun e W' => (∃ v'', e = .returned (.tuple #[v'', .int .i64 0]) ∧ RdWv W' v'' (wsum o 0 (r ++ [p])) 60) ∧ Below W.heap.size W W') := fun W v' hW => impulses_ok v' (r ++ [p]) o W hW hpt hst ⟨ho0, ho12⟩
  have HXY : Hid (wsum o 0 (r ++ [p]) = (wsum o 0 (p :: r)).mul (turn (-o * p))) := wsum_turned o p r hpr
  have HX0 : Hid (wsum 0 0 (p :: r) = .ofQ (((p :: r).length : Int) : Rat)) := wsum_zero 0 (p :: r)
  obtain ⟨A, cap, rfl, hcap, hmax, hcm, hc⟩ := h.at_
  obtain ⟨b, off, rfl, hbw, hcx⟩ := hc 0 (by simp)
  have HCP : Hid (∀ W, Below w.heap.size w W → W.cell? ⟨b, off, none⟩ = some (.int .i64 p)) := fun W hW => (hW.cell (p := ⟨b, off, none⟩) hbw).trans hcx
  have HCR : Hid (∀ W, Below w.heap.size w W → ∀ j u, (r.map intV)[j]? = some u → W.cell? ((⟨b, off + 1, none⟩ : Addr).add j) = some u) := fun W hW j u hu => by
    rw [List.getElem?_map] at hu
    obtain ⟨y, hy, rfl⟩ := Option.map_eq_some_iff.1 hu
    have hj := (List.getElem?_eq_some_iff.1 hy).1
    obtain ⟨b', off', e1, _, e4⟩ := hc (j + 1) (by simp; omega)
    simp only [Option.some.injEq, Addr.mk.injEq, and_true] at e1
    obtain ⟨rfl, rfl⟩ := e1
    have hat : atL (p :: r) (j + 1) = y := atL_of (by simpa using hy)
    rw [hat] at e4
    rw [addr_add, show off + 1 + j = off + (j + 1) by omega]
    exact (hW.cell (p := ⟨b, off + (j + 1), none⟩) hbw).trans e4
  obtain ⟨m, hm⟩ : ∃ m, m = r.length := ⟨_, rfl⟩
  have hlen : (p :: r).length = m + 1 := by rw [List.length_cons, hm]
  rw [hlen] at HX0 hcap hmax hl12 ⊢
  have HM := Lib.hid hm.symm
  obtain ⟨X, hX⟩ : ∃ X, X = wsum o 0 (p :: r) := ⟨_, rfl⟩
  obtain ⟨X0, hX0⟩ : ∃ X, X = wsum 0 0 (p :: r) := ⟨_, rfl⟩
  obtain ⟨Y, hY⟩ : ∃ X, X = wsum o 0 (r ++ [p]) := ⟨_, rfl⟩
  rw [← hX] at HIA HXY
  rw [← hX0] at HI0 HX0
  rw [← hY] at HIT HXY
  rw [hlen] at HP1 HTO HIA HI0
  have HOP : Hid (-1200 ≤ -o * p ∧ -o * p ≤ 0) := by
    show _ ∧ _
    have h1 := Int.mul_nonneg ho0 (show 0 ≤ p by omega)
    have h2 := Int.mul_le_mul ho12 hpp.2 (by omega) (by omega)
    rw [Int.neg_mul]; omega
  have hw1 : IntKind.i64.wrap (-o) = -o := IntWalk.i64_in _ (by omega)
  have hw2 : IntKind.i64.wrap (-o * p) = -o * p := IntWalk.i64_in _ (by have := HOP.out; omega)
  have hno1 : ¬ o < 0 := by omega
  have hno2 : ¬ 12 < o := by omega
  clear h hc hcx hbw hm hp hsm hs24 hpr hpp hpt hst hX hX0 hY hcm hlen
  go_enter Tryz.func9, Tryz.ntmps9
  go_wp2_with fail
  refine HP1.out.mono ?_
  rintro e w0 ⟨rfl, hwx⟩
  obtain rfl := hwx.symm
  clear hwx HP1
  go_wp2_with fail
  refine HTO.out.mono ?_
  rintro e w0 ⟨rfl, hwx⟩
  obtain rfl := hwx.symm
  clear hwx HTO
  go_wp2_with fail
  refine (HIA.out w (Below.refl _ _)).mono ?_
  rintro e w1 ⟨⟨vx, rfl, hr⟩, j1⟩
  obtain ⟨gpa, Apa, kpa, cpa, gpb, Apb, kpb, cpb, gpc, Apc, kpc, cpc, gpd, Apd, kpd, cpd, Ape, kpe, cpe, gpf, Apf, kpf, cpf, gpg, Apg, kpg, cpg, gph, Aph, kph, cph, gpi, Api, kpi, cpi, Apj, kpj, cpj, rfl, hr⟩ := hr.open
  have HX5 := Lib.hid hr
  clear hr HIA
  obtain ⟨g5, hg5⟩ : ∃ g, g = w1.heap.size := ⟨_, rfl⟩
  have HG5 := Lib.hid hg5
  obtain ⟨W0, HW0, HB5, HSZ_W2, j2⟩ := st_al0 w1 #[.bool false, .slice none 0 0, .bool false, .slice none 0 0, .bool false, .slice none 0 0, .bool false, .slice none 0 0, .slice none 0 0, .bool false, .slice none 0 0, .bool false, .slice none 0 0, .bool false, .slice none 0 0, .bool false, .slice none 0 0, .slice none 0 0] 88
  have HBw := kU (Lib.hid j1) j2
  have HLE : Hid (w.heap.size ≤ w1.heap.size) := j1.size
  have hTH := blk_there (off := 0) (n := 18) HB5.out (Nat.le_of_ble_eq_true rfl)
  obtain ⟨W2, HW2⟩ : ∃ W, Hid (W = W0.setCells w1.heap.size 0 [.bool gpa, .slice Apa kpa cpa, .bool gpb, .slice Apb kpb cpb, .bool gpc, .slice Apc kpc cpc, .bool gpd, .slice Apd kpd cpd, .slice Ape kpe cpe, .bool gpf, .slice Apf kpf cpf, .bool gpg, .slice Apg kpg cpg, .bool gph, .slice Aph kph cph, .bool gpi, .slice Api kpi cpi, .slice Apj kpj cpj]) := ⟨_, rfl⟩
  have T2 := kN (kM HW2) HB5 rfl rfl
  replace HX5 := kW T2 (kV j2 HX5)
  replace HB5 := kP (ds := [.bool gpa, .slice Apa kpa cpa, .bool gpb, .slice Apb kpb cpb, .bool gpc, .slice Apc kpc cpc, .bool gpd, .slice Apd kpd cpd, .slice Ape kpe cpe, .bool gpf, .slice Apf kpf cpf, .bool gpg, .slice Apg kpg cpg, .bool gph, .slice Aph kph cph, .bool gpi, .slice Api kpi cpi, .slice Apj kpj cpj]) (kM HW2) HB5 rfl rfl
  replace HBw := kS (kM HW2) HLE HBw
  rw [HW0.out] at hTH
  go_wp2_with (refine wpList_store_mid (by rfl) 88 _ _ (by rfl) w1.heap.size 0 _ (by rfl) (by rfl) (by exact hTH) (by kernel_rfl) (by kernel_rfl) ?_)
  rw [← HW0.out, ← HW2.out]
  rw [← HG5.out] at HB5 ⊢
  clear hg5 HG5 HW0 HW2 HSZ_W2 j1 j2 T2 hTH HLE
  go_cut [7, 8] (fun bv ev wx => ∃ g7, bv = .pointer (some ⟨g7, 0, none⟩) ∧ ev = .int .i64 0 ∧ Hid (TotIs wx g7 Y 60) ∧ Hid (Below W2.heap.size W2 wx))
  case first =>
    obtain ⟨wa, hwa⟩ : ∃ W, W = W2.drew := ⟨_, rfl⟩
    have j3 : Below W2.heap.size W2 wa := by rw [hwa]; exact (Below.refl _ _).drew
    have HBa := kU HBw j3
    have HS : Hid (∀ W', Below wa.heap.size wa W' → W'.cell? ⟨b, off, none⟩ = some (.int .i64 p)) := fun W' hW => HCP.out W' (HBa.out.trans (hW.mono HBa.out.size))
    have HSR : Hid (∀ W', Below wa.heap.size wa W' → ∀ j u, (r.map intV)[j]? = some u → W'.cell? ((⟨b, off + 1, none⟩ : Addr).add j) = some u) := fun W' hW => HCR.out W' (HBa.out.trans (hW.mono HBa.out.size))
    obtain ⟨ad, had, HAD⟩ : ∃ ad : Addr, (if cap = 1 then some (⟨b, off, none⟩ : Addr) else some ⟨b, off + 1, none⟩) = some ad ∧ Hid (∀ W', Below wa.heap.size wa W' → ∀ j u, (r.map intV)[j]? = some u → W'.cell? (ad.add j) = some u) := by
      by_cases hc1 : cap = 1
      · refine ⟨⟨b, off, none⟩, if_pos hc1, fun W' _ j u hu => ?_⟩
        have hr0 : r = [] := List.eq_nil_of_length_eq_zero (by rw [HM.out]; omega)
        rw [hr0] at hu; simp at hu
      · exact ⟨⟨b, off + 1, none⟩, if_neg hc1, HSR.out⟩
    have hge : (1 : Int) ≤ (m : Int) + 1 := by omega
    have HG : Hid (Fr wa wa 3 1 none []) := Fr.start wa 3 1
    have HJ3 : Hid (∀ W', Below wa.heap.size wa W' → Below W2.heap.size W2 W') := fun W' hW => j3.trans (hW.mono j3.size)
    have hm1 : (m : Int) + 1 - 1 = (m : Int) := by omega
    clear HCP HCR HBw HB5 HX5 j3 HI0 HXY HX0 HOP
    go_wp2_with fail
    refine seq_start (S := fun w' => w'.cell? ⟨b, off, none⟩ = some (.int .i64 p)) (by kernel_rfl) (by kernel_rfl) (by rw [← hwa]; exact HS.out _ (Below.refl _ _)) ?_
    rw [← hwa]
    clear hwa
    refine plq 1 (h := ?_)
    refine tk0 (h := ?_)
    refine plq 1 (h := ?_)
    refine tk0 (h := ?_)
    refine plq 2 (h := ?_)
    refine tk0 (h := ?_)
    refine plq 2 (h := ?_)
    refine tk0 (h := ?_)
    refine plq 2 (h := ?_)
    refine tk0 (h := ?_)
    refine plq 4 (h := ?_)
    refine tk0 (h := ?_)
    refine plq 8 (h := ?_)
    refine plq 3 (h := ?_)
    refine plq 2 (h := ?_)
    refine seq_three (by kernel_rfl) (by rfl) (by rfl) (by rfl) ?_ ?_ ?_
    · intro K9 hK9
      go_simp
      refine ckB hK9 HG HS.out (h := fun V1 jb HG => ?_)
      clear hK9 K9
      refine plq 2 (h := ?_)
      refine plq 2 (h := ?_)
      refine plq 2 (h := ?_)
      refine seq_three (by kernel_rfl) (by rfl) (by rfl) (by rfl) ?_ ?_ ?_
      · intro K9 hK9
        go_simp
        refine ckL hK9 HG HS.out (h := fun V2 jb HG => ?_)
        clear hK9 K9
        refine plq 1 (h := ?_)
        refine plq 1 (h := ?_)
        refine seq_both (by kernel_rfl) (by rfl) (by rfl) ?_ ?_
        · intro K9 hK9
          go_simp
          refine ckL hK9 HG HS.out (h := fun V3 jb HG => ?_)
          clear hK9 K9
          refine sop (h := fun K9 hK9 => ?_)
          refine opI rfl hK9 HG HS.out ad m _ r HM.out (HAD.out _ HG.out.bel) m (Nat.zero_add m) (by omega) _ _ (h := fun A1 k1 V4 HG => ?_)
          clear hK9 K9
          refine nrm (h := ?_)
          refine sop (h := fun K9 hK9 => ?_)
          refine opI rfl hK9 HG HS.out ⟨V1.heap.size, 0, none⟩ 1 _ [p] rfl (blk_one (HG.out.blk (V1.heap.size) (.cells #[.int .i64 p] 3 (0, 0)) (by simp)).2.1) (m + 1) rfl (by omega) _ _ (h := fun A1 k1 V5 HG => ?_)
          clear hK9 K9
          refine nrm (h := ?_)
          refine sop (h := fun K9 hK9 => ?_)
          go_simp
          refine (HIT.out _ _ (own_ints (HG.out.row _ _ _ rfl) (by rw [List.map_append]; rfl))).mono ?_
          rintro e V6 ⟨⟨vx, rfl, hr⟩, jb⟩
          obtain ⟨gfa, Afa, kfa, cfa, gfb, Afb, kfb, cfb, gfc, Afc, kfc, cfc, gfd, Afd, kfd, cfd, Afe, kfe, cfe, gff, Aff, kff, cff, gfg, Afg, kfg, cfg, gfh, Afh, kfh, cfh, gfi, Afi, kfi, cfi, Afj, kfj, cfj, rfl, hr⟩ := hr.open
          have HR := Lib.hid hr
          clear hr
          refine ckC hK9 HG HS.out jb (h := fun HG => ?_)
          clear hK9 K9
          refine tk0 (h := ?_)
          refine tk0 (h := ?_)
          refine tk0 (h := ?_)
          refine sop (h := fun K9 hK9 => ?_)
          have HTH : Hid (V6.there (V2.heap.size) 0 18) := fr_there HG (by simp)
          refine wp_store_mid 88 _ _ (by rfl) (V2.heap.size) 0 _ (by rfl) (by rfl) (by exact HTH.out) (by kernel_rfl) (by kernel_rfl) ?_
          obtain ⟨HTS, HBE⟩ := tot_store (g := V2.heap.size) HG (by simp) HR rfl rfl
          refine ckk hK9 (by exact HS.out _ HBE.out) (h := ?_)
          clear hK9 K9 HTH
          refine tk0 (h := ?_)
          refine seq_done (by kernel_rfl) ?_
          go_wp2_with fail
          go_meet
          case rel => exact ⟨_, rfl, rfl, HTS, HJ3.out _ HBE.out⟩
        · intro K9 hK9
          refine opI rfl hK9 HG HS.out ad m _ r HM.out (HAD.out _ HG.out.bel) m (Nat.zero_add m) (by omega) _ _ (h := fun A1 k1 V7 HG => ?_)
          clear hK9 K9
          refine nrm (h := ?_)
          refine plq 1 (h := ?_)
          refine plq 1 (h := ?_)
          refine seq_both (by kernel_rfl) (by rfl) (by rfl) ?_ ?_
          · intro K9 hK9
            go_simp
            refine ckL hK9 HG HS.out (h := fun V8 jb HG => ?_)
            clear hK9 K9
            refine sop (h := fun K9 hK9 => ?_)
            refine opI rfl hK9 HG HS.out ⟨V1.heap.size, 0, none⟩ 1 _ [p] rfl (blk_one (HG.out.blk (V1.heap.size) (.cells #[.int .i64 p] 3 (0, 0)) (by simp)).2.1) (m + 1) rfl (by omega) _ _ (h := fun A1 k1 V9 HG => ?_)
            clear hK9 K9
            refine nrm (h := ?_)
            refine sop (h := fun K9 hK9 => ?_)
            go_simp
            refine (HIT.out _ _ (own_ints (HG.out.row _ _ _ rfl) (by rw [List.map_append]; rfl))).mono ?_
            rintro e V10 ⟨⟨vx, rfl, hr⟩, jb⟩
            obtain ⟨gfa, Afa, kfa, cfa, gfb, Afb, kfb, cfb, gfc, Afc, kfc, cfc, gfd, Afd, kfd, cfd, Afe, kfe, cfe, gff, Aff, kff, cff, gfg, Afg, kfg, cfg, gfh, Afh, kfh, cfh, gfi, Afi, kfi, cfi, Afj, kfj, cfj, rfl, hr⟩ := hr.open
            have HR := Lib.hid hr
            clear hr
            refine ckC hK9 HG HS.out jb (h := fun HG => ?_)
            clear hK9 K9
            refine tk0 (h := ?_)
            refine tk0 (h := ?_)
            refine tk0 (h := ?_)
            refine sop (h := fun K9 hK9 => ?_)
            have HTH : Hid (V10.there (V7.heap.size) 0 18) := fr_there HG (by simp)
            refine wp_store_mid 88 _ _ (by rfl) (V7.heap.size) 0 _ (by rfl) (by rfl) (by exact HTH.out) (by kernel_rfl) (by kernel_rfl) ?_
            obtain ⟨HTS, HBE⟩ := tot_store (g := V7.heap.size) HG (by simp) HR rfl rfl
            refine ckk hK9 (by exact HS.out _ HBE.out) (h := ?_)
            clear hK9 K9 HTH
            refine tk0 (h := ?_)
            refine seq_done (by kernel_rfl) ?_
            go_wp2_with fail
            go_meet
            case rel => exact ⟨_, rfl, rfl, HTS, HJ3.out _ HBE.out⟩
          · intro K9 hK9
            refine opI rfl hK9 HG HS.out ⟨V1.heap.size, 0, none⟩ 1 _ [p] rfl (blk_one (HG.out.blk (V1.heap.size) (.cells #[.int .i64 p] 3 (0, 0)) (by simp)).2.1) (m + 1) rfl (by omega) _ _ (h := fun A1 k1 V11 HG => ?_)
            clear hK9 K9
            refine nrm (h := ?_)
            refine plq 1 (h := ?_)
            refine plq 1 (h := ?_)
            refine seq_both (by kernel_rfl) (by rfl) (by rfl) ?_ ?_
            · intro K9 hK9
              go_simp
              refine ckL hK9 HG HS.out (h := fun V12 jb HG => ?_)
              clear hK9 K9
              refine sop (h := fun K9 hK9 => ?_)
              go_simp
              refine (HIT.out _ _ (own_ints (HG.out.row _ _ _ rfl) (by rw [List.map_append]; rfl))).mono ?_
              rintro e V13 ⟨⟨vx, rfl, hr⟩, jb⟩
              obtain ⟨gfa, Afa, kfa, cfa, gfb, Afb, kfb, cfb, gfc, Afc, kfc, cfc, gfd, Afd, kfd, cfd, Afe, kfe, cfe, gff, Aff, kff, cff, gfg, Afg, kfg, cfg, gfh, Afh, kfh, cfh, gfi, Afi, kfi, cfi, Afj, kfj, cfj, rfl, hr⟩ := hr.open
              have HR := Lib.hid hr
              clear hr
              refine ckC hK9 HG HS.out jb (h := fun HG => ?_)
              clear hK9 K9
              refine tk0 (h := ?_)
              refine tk0 (h := ?_)
              refine tk0 (h := ?_)
              refine sop (h := fun K9 hK9 => ?_)
              have HTH : Hid (V13.there (V11.heap.size) 0 18) := fr_there HG (by simp)
              refine wp_store_mid 88 _ _ (by rfl) (V11.heap.size) 0 _ (by rfl) (by rfl) (by exact HTH.out) (by kernel_rfl) (by kernel_rfl) ?_
              obtain ⟨HTS, HBE⟩ := tot_store (g := V11.heap.size) HG (by simp) HR rfl rfl
              refine ckk hK9 (by exact HS.out _ HBE.out) (h := ?_)
              clear hK9 K9 HTH
              refine tk0 (h := ?_)
              refine seq_done (by kernel_rfl) ?_
              go_wp2_with fail
              go_meet
              case rel => exact ⟨_, rfl, rfl, HTS, HJ3.out _ HBE.out⟩
            · intro K9 hK9
              go_simp
              refine (HIT.out _ _ (own_ints (HG.out.row _ _ _ rfl) (by rw [List.map_append]; rfl))).mono ?_
              rintro e V14 ⟨⟨vx, rfl, hr⟩, jb⟩
              obtain ⟨gfa, Afa, kfa, cfa, gfb, Afb, kfb, cfb, gfc, Afc, kfc, cfc, gfd, Afd, kfd, cfd, Afe, kfe, cfe, gff, Aff, kff, cff, gfg, Afg, kfg, cfg, gfh, Afh, kfh, cfh, gfi, Afi, kfi, cfi, Afj, kfj, cfj, rfl, hr⟩ := hr.open
              have HR := Lib.hid hr
              clear hr
              refine ckC hK9 HG HS.out jb (h := fun HG => ?_)
              clear hK9 K9
              refine plq 1 (h := ?_)
              refine tk0 (h := ?_)
              refine plq 1 (h := ?_)
              refine tk0 (h := ?_)
              refine plq 1 (h := ?_)
              refine tk0 (h := ?_)
              refine sop (h := fun K9 hK9 => ?_)
              go_simp
              refine ckL hK9 HG HS.out (h := fun V15 jb HG => ?_)
              clear hK9 K9
              replace HR := kV jb HR
              refine sop (h := fun K9 hK9 => ?_)
              have HTH : Hid (V15.there (V14.heap.size) 0 18) := fr_there HG (by simp)
              refine wp_store_mid 88 _ _ (by rfl) (V14.heap.size) 0 _ (by rfl) (by rfl) (by exact HTH.out) (by kernel_rfl) (by kernel_rfl) ?_
              obtain ⟨HTS, HBE⟩ := tot_store (g := V14.heap.size) HG (by simp) HR rfl rfl
              refine ckk hK9 (by exact HS.out _ HBE.out) (h := ?_)
              clear hK9 K9 HTH
              refine tk0 (h := ?_)
              refine seq_done (by kernel_rfl) ?_
              go_wp2_with fail
              go_meet
              case rel => exact ⟨_, rfl, rfl, HTS, HJ3.out _ HBE.out⟩
      · intro K9 hK9
        go_simp
        refine ckL hK9 HG HS.out (h := fun V16 jb HG => ?_)
        clear hK9 K9
        refine plq 1 (h := ?_)
        refine plq 1 (h := ?_)
        refine seq_both (by kernel_rfl) (by rfl) (by rfl) ?_ ?_
        · intro K9 hK9
          go_simp
          refine ckL hK9 HG HS.out (h := fun V17 jb HG => ?_)
          clear hK9 K9
          refine sop (h := fun K9 hK9 => ?_)
          refine opI rfl hK9 HG HS.out ad m _ r HM.out (HAD.out _ HG.out.bel) m (Nat.zero_add m) (by omega) _ _ (h := fun A1 k1 V18 HG => ?_)
          clear hK9 K9
          refine nrm (h := ?_)
          refine sop (h := fun K9 hK9 => ?_)
          refine opI rfl hK9 HG HS.out ⟨V16.heap.size, 0, none⟩ 1 _ [p] rfl (blk_one (HG.out.blk (V16.heap.size) (.cells #[.int .i64 p] 3 (0, 0)) (by simp)).2.1) (m + 1) rfl (by omega) _ _ (h := fun A1 k1 V19 HG => ?_)
          clear hK9 K9
          refine nrm (h := ?_)
          refine sop (h := fun K9 hK9 => ?_)
          go_simp
          refine (HIT.out _ _ (own_ints (HG.out.row _ _ _ rfl) (by rw [List.map_append]; rfl))).mono ?_
          rintro e V20 ⟨⟨vx, rfl, hr⟩, jb⟩
          obtain ⟨gfa, Afa, kfa, cfa, gfb, Afb, kfb, cfb, gfc, Afc, kfc, cfc, gfd, Afd, kfd, cfd, Afe, kfe, cfe, gff, Aff, kff, cff, gfg, Afg, kfg, cfg, gfh, Afh, kfh, cfh, gfi, Afi, kfi, cfi, Afj, kfj, cfj, rfl, hr⟩ := hr.open
          have HR := Lib.hid hr
          clear hr
          refine ckC hK9 HG HS.out jb (h := fun HG => ?_)
          clear hK9 K9
          refine tk0 (h := ?_)
          refine tk0 (h := ?_)
          refine tk0 (h := ?_)
          refine sop (h := fun K9 hK9 => ?_)
          have HTH : Hid (V20.there (V1.heap.size) 0 18) := fr_there HG (by simp)
          refine wp_store_mid 88 _ _ (by rfl) (V1.heap.size) 0 _ (by rfl) (by rfl) (by exact HTH.out) (by kernel_rfl) (by kernel_rfl) ?_
          obtain ⟨HTS, HBE⟩ := tot_store (g := V1.heap.size) HG (by simp) HR rfl rfl
          refine ckk hK9 (by exact HS.out _ HBE.out) (h := ?_)
          clear hK9 K9 HTH
          refine tk0 (h := ?_)
          refine seq_done (by kernel_rfl) ?_
          go_wp2_with fail
          go_meet
          case rel => exact ⟨_, rfl, rfl, HTS, HJ3.out _ HBE.out⟩
        · intro K9 hK9
          refine opI rfl hK9 HG HS.out ad m _ r HM.out (HAD.out _ HG.out.bel) m (Nat.zero_add m) (by omega) _ _ (h := fun A1 k1 V21 HG => ?_)
          clear hK9 K9
          refine nrm (h := ?_)
          refine sop (h := fun K9 hK9 => ?_)
          go_simp
          refine ckL hK9 HG HS.out (h := fun V22 jb HG => ?_)
          clear hK9 K9
          refine sop (h := fun K9 hK9 => ?_)
          refine opI rfl hK9 HG HS.out ⟨V21.heap.size, 0, none⟩ 1 _ [p] rfl (blk_one (HG.out.blk (V21.heap.size) (.cells #[.int .i64 p] 3 (0, 0)) (by simp)).2.1) (m + 1) rfl (by omega) _ _ (h := fun A1 k1 V23 HG => ?_)
          clear hK9 K9
          refine nrm (h := ?_)
          refine sop (h := fun K9 hK9 => ?_)
          go_simp
          refine (HIT.out _ _ (own_ints (HG.out.row _ _ _ rfl) (by rw [List.map_append]; rfl))).mono ?_
          rintro e V24 ⟨⟨vx, rfl, hr⟩, jb⟩
          obtain ⟨gfa, Afa, kfa, cfa, gfb, Afb, kfb, cfb, gfc, Afc, kfc, cfc, gfd, Afd, kfd, cfd, Afe, kfe, cfe, gff, Aff, kff, cff, gfg, Afg, kfg, cfg, gfh, Afh, kfh, cfh, gfi, Afi, kfi, cfi, Afj, kfj, cfj, rfl, hr⟩ := hr.open
          have HR := Lib.hid hr
          clear hr
          refine ckC hK9 HG HS.out jb (h := fun HG => ?_)
          clear hK9 K9
          refine tk0 (h := ?_)
          refine tk0 (h := ?_)
          refine tk0 (h := ?_)
          refine sop (h := fun K9 hK9 => ?_)
          have HTH : Hid (V24.there (V1.heap.size) 0 18) := fr_there HG (by simp)
          refine wp_store_mid 88 _ _ (by rfl) (V1.heap.size) 0 _ (by rfl) (by rfl) (by exact HTH.out) (by kernel_rfl) (by kernel_rfl) ?_
          obtain ⟨HTS, HBE⟩ := tot_store (g := V1.heap.size) HG (by simp) HR rfl rfl
          refine ckk hK9 (by exact HS.out _ HBE.out) (h := ?_)
          clear hK9 K9 HTH
          refine tk0 (h := ?_)
          refine seq_done (by kernel_rfl) ?_
          go_wp2_with fail
          go_meet
          case rel => exact ⟨_, rfl, rfl, HTS, HJ3.out _ HBE.out⟩
      · intro K9 hK9
        refine opI rfl hK9 HG HS.out ad m _ r HM.out (HAD.out _ HG.out.bel) m (Nat.zero_add m) (by omega) _ _ (h := fun A1 k1 V25 HG => ?_)
        clear hK9 K9
        refine nrm (h := ?_)
        refine plq 1 (h := ?_)
        refine plq 1 (h := ?_)
        refine seq_both (by kernel_rfl) (by rfl) (by rfl) ?_ ?_
        · intro K9 hK9
          go_simp
          refine ckL hK9 HG HS.out (h := fun V26 jb HG => ?_)
          clear hK9 K9
          refine plq 1 (h := ?_)
          refine plq 1 (h := ?_)
          refine seq_both (by kernel_rfl) (by rfl) (by rfl) ?_ ?_
          · intro K9 hK9
            go_simp
            refine ckL hK9 HG HS.out (h := fun V27 jb HG => ?_)
            clear hK9 K9
            refine sop (h := fun K9 hK9 => ?_)
            refine opI rfl hK9 HG HS.out ⟨V25.heap.size, 0, none⟩ 1 _ [p] rfl (blk_one (HG.out.blk (V25.heap.size) (.cells #[.int .i64 p] 3 (0, 0)) (by simp)).2.1) (m + 1) rfl (by omega) _ _ (h := fun A1 k1 V28 HG => ?_)
            clear hK9 K9
            refine nrm (h := ?_)
            refine sop (h := fun K9 hK9 => ?_)
            go_simp
            refine (HIT.out _ _ (own_ints (HG.out.row _ _ _ rfl) (by rw [List.map_append]; rfl))).mono ?_
            rintro e V29 ⟨⟨vx, rfl, hr⟩, jb⟩
            obtain ⟨gfa, Afa, kfa, cfa, gfb, Afb, kfb, cfb, gfc, Afc, kfc, cfc, gfd, Afd, kfd, cfd, Afe, kfe, cfe, gff, Aff, kff, cff, gfg, Afg, kfg, cfg, gfh, Afh, kfh, cfh, gfi, Afi, kfi, cfi, Afj, kfj, cfj, rfl, hr⟩ := hr.open
            have HR := Lib.hid hr
            clear hr
            refine ckC hK9 HG HS.out jb (h := fun HG => ?_)
            clear hK9 K9
            refine tk0 (h := ?_)
            refine tk0 (h := ?_)
            refine tk0 (h := ?_)
            refine sop (h := fun K9 hK9 => ?_)
            have HTH : Hid (V29.there (V26.heap.size) 0 18) := fr_there HG (by simp)
            refine wp_store_mid 88 _ _ (by rfl) (V26.heap.size) 0 _ (by rfl) (by rfl) (by exact HTH.out) (by kernel_rfl) (by kernel_rfl) ?_
            obtain ⟨HTS, HBE⟩ := tot_store (g := V26.heap.size) HG (by simp) HR rfl rfl
            refine ckk hK9 (by exact HS.out _ HBE.out) (h := ?_)
            clear hK9 K9 HTH
            refine tk0 (h := ?_)
            refine seq_done (by kernel_rfl) ?_
            go_wp2_with fail
            go_meet
            case rel => exact ⟨_, rfl, rfl, HTS, HJ3.out _ HBE.out⟩
          · intro K9 hK9
            refine opI rfl hK9 HG HS.out ⟨V25.heap.size, 0, none⟩ 1 _ [p] rfl (blk_one (HG.out.blk (V25.heap.size) (.cells #[.int .i64 p] 3 (0, 0)) (by simp)).2.1) (m + 1) rfl (by omega) _ _ (h := fun A1 k1 V30 HG => ?_)
            clear hK9 K9
            refine nrm (h := ?_)
            refine plq 1 (h := ?_)
            refine plq 1 (h := ?_)
            refine seq_both (by kernel_rfl) (by rfl) (by rfl) ?_ ?_
            · intro K9 hK9
              go_simp
              refine ckL hK9 HG HS.out (h := fun V31 jb HG => ?_)
              clear hK9 K9
              refine sop (h := fun K9 hK9 => ?_)
              go_simp
              refine (HIT.out _ _ (own_ints (HG.out.row _ _ _ rfl) (by rw [List.map_append]; rfl))).mono ?_
              rintro e V32 ⟨⟨vx, rfl, hr⟩, jb⟩
              obtain ⟨gfa, Afa, kfa, cfa, gfb, Afb, kfb, cfb, gfc, Afc, kfc, cfc, gfd, Afd, kfd, cfd, Afe, kfe, cfe, gff, Aff, kff, cff, gfg, Afg, kfg, cfg, gfh, Afh, kfh, cfh, gfi, Afi, kfi, cfi, Afj, kfj, cfj, rfl, hr⟩ := hr.open
              have HR := Lib.hid hr
              clear hr
              refine ckC hK9 HG HS.out jb (h := fun HG => ?_)
              clear hK9 K9
              refine tk0 (h := ?_)
              refine tk0 (h := ?_)
              refine tk0 (h := ?_)
              refine sop (h := fun K9 hK9 => ?_)
              have HTH : Hid (V32.there (V30.heap.size) 0 18) := fr_there HG (by simp)
              refine wp_store_mid 88 _ _ (by rfl) (V30.heap.size) 0 _ (by rfl) (by rfl) (by exact HTH.out) (by kernel_rfl) (by kernel_rfl) ?_
              obtain ⟨HTS, HBE⟩ := tot_store (g := V30.heap.size) HG (by simp) HR rfl rfl
              refine ckk hK9 (by exact HS.out _ HBE.out) (h := ?_)
              clear hK9 K9 HTH
              refine tk0 (h := ?_)
              refine seq_done (by kernel_rfl) ?_
              go_wp2_with fail
              go_meet
              case rel => exact ⟨_, rfl, rfl, HTS, HJ3.out _ HBE.out⟩
            · intro K9 hK9
              go_simp
              refine (HIT.out _ _ (own_ints (HG.out.row _ _ _ rfl) (by rw [List.map_append]; rfl))).mono ?_
              rintro e V33 ⟨⟨vx, rfl, hr⟩, jb⟩
              obtain ⟨gfa, Afa, kfa, cfa, gfb, Afb, kfb, cfb, gfc, Afc, kfc, cfc, gfd, Afd, kfd, cfd, Afe, kfe, cfe, gff, Aff, kff, cff, gfg, Afg, kfg, cfg, gfh, Afh, kfh, cfh, gfi, Afi, kfi, cfi, Afj, kfj, cfj, rfl, hr⟩ := hr.open
              have HR := Lib.hid hr
              clear hr
              refine ckC hK9 HG HS.out jb (h := fun HG => ?_)
              clear hK9 K9
              refine plq 1 (h := ?_)
              refine tk0 (h := ?_)
              refine plq 1 (h := ?_)
              refine tk0 (h := ?_)
              refine plq 1 (h := ?_)
              refine tk0 (h := ?_)
              refine sop (h := fun K9 hK9 => ?_)
              go_simp
              refine ckL hK9 HG HS.out (h := fun V34 jb HG => ?_)
              clear hK9 K9
              replace HR := kV jb HR
              refine sop (h := fun K9 hK9 => ?_)
              have HTH : Hid (V34.there (V33.heap.size) 0 18) := fr_there HG (by simp)
              refine wp_store_mid 88 _ _ (by rfl) (V33.heap.size) 0 _ (by rfl) (by rfl) (by exact HTH.out) (by kernel_rfl) (by kernel_rfl) ?_
              obtain ⟨HTS, HBE⟩ := tot_store (g := V33.heap.size) HG (by simp) HR rfl rfl
              refine ckk hK9 (by exact HS.out _ HBE.out) (h := ?_)
              clear hK9 K9 HTH
              refine tk0 (h := ?_)
              refine seq_done (by kernel_rfl) ?_
              go_wp2_with fail
              go_meet
              case rel => exact ⟨_, rfl, rfl, HTS, HJ3.out _ HBE.out⟩
        · intro K9 hK9
          go_simp
          refine ckL hK9 HG HS.out (h := fun V35 jb HG => ?_)
          clear hK9 K9
          refine sop (h := fun K9 hK9 => ?_)
          go_simp
          refine ckL hK9 HG HS.out (h := fun V36 jb HG => ?_)
          clear hK9 K9
          refine sop (h := fun K9 hK9 => ?_)
          refine opI rfl hK9 HG HS.out ⟨V35.heap.size, 0, none⟩ 1 _ [p] rfl (blk_one (HG.out.blk (V35.heap.size) (.cells #[.int .i64 p] 3 (0, 0)) (by simp)).2.1) (m + 1) rfl (by omega) _ _ (h := fun A1 k1 V37 HG => ?_)
          clear hK9 K9
          refine nrm (h := ?_)
          refine sop (h := fun K9 hK9 => ?_)
          go_simp
          refine (HIT.out _ _ (own_ints (HG.out.row _ _ _ rfl) (by rw [List.map_append]; rfl))).mono ?_
          rintro e V38 ⟨⟨vx, rfl, hr⟩, jb⟩
          obtain ⟨gfa, Afa, kfa, cfa, gfb, Afb, kfb, cfb, gfc, Afc, kfc, cfc, gfd, Afd, kfd, cfd, Afe, kfe, cfe, gff, Aff, kff, cff, gfg, Afg, kfg, cfg, gfh, Afh, kfh, cfh, gfi, Afi, kfi, cfi, Afj, kfj, cfj, rfl, hr⟩ := hr.open
          have HR := Lib.hid hr
          clear hr
          refine ckC hK9 HG HS.out jb (h := fun HG => ?_)
          clear hK9 K9
          refine tk0 (h := ?_)
          refine tk0 (h := ?_)
          refine tk0 (h := ?_)
          refine sop (h := fun K9 hK9 => ?_)
          have HTH : Hid (V38.there (V25.heap.size) 0 18) := fr_there HG (by simp)
          refine wp_store_mid 88 _ _ (by rfl) (V25.heap.size) 0 _ (by rfl) (by rfl) (by exact HTH.out) (by kernel_rfl) (by kernel_rfl) ?_
          obtain ⟨HTS, HBE⟩ := tot_store (g := V25.heap.size) HG (by simp) HR rfl rfl
          refine ckk hK9 (by exact HS.out _ HBE.out) (h := ?_)
          clear hK9 K9 HTH
          refine tk0 (h := ?_)
          refine seq_done (by kernel_rfl) ?_
          go_wp2_with fail
          go_meet
          case rel => exact ⟨_, rfl, rfl, HTS, HJ3.out _ HBE.out⟩
    · intro K9 hK9
      go_simp
      refine ckL hK9 HG HS.out (h := fun V39 jb HG => ?_)
      clear hK9 K9
      refine plq 1 (h := ?_)
      refine plq 1 (h := ?_)
      refine seq_both (by kernel_rfl) (by rfl) (by rfl) ?_ ?_
      · intro K9 hK9
        go_simp
        refine ckB hK9 HG HS.out (h := fun V40 jb HG => ?_)
        clear hK9 K9
        refine plq 1 (h := ?_)
        refine plq 1 (h := ?_)
        refine seq_both (by kernel_rfl) (by rfl) (by rfl) ?_ ?_
        · intro K9 hK9
          go_simp
          refine ckL hK9 HG HS.out (h := fun V41 jb HG => ?_)
          clear hK9 K9
          refine sop (h := fun K9 hK9 => ?_)
          refine opI rfl hK9 HG HS.out ad m _ r HM.out (HAD.out _ HG.out.bel) m (Nat.zero_add m) (by omega) _ _ (h := fun A1 k1 V42 HG => ?_)
          clear hK9 K9
          refine nrm (h := ?_)
          refine sop (h := fun K9 hK9 => ?_)
          refine opI rfl hK9 HG HS.out ⟨wa.heap.size, 0, none⟩ 1 _ [p] rfl (blk_one (HG.out.blk (wa.heap.size) (.cells #[.int .i64 p] 3 (0, 0)) (by simp)).2.1) (m + 1) rfl (by omega) _ _ (h := fun A1 k1 V43 HG => ?_)
          clear hK9 K9
          refine nrm (h := ?_)
          refine sop (h := fun K9 hK9 => ?_)
          go_simp
          refine (HIT.out _ _ (own_ints (HG.out.row _ _ _ rfl) (by rw [List.map_append]; rfl))).mono ?_
          rintro e V44 ⟨⟨vx, rfl, hr⟩, jb⟩
          obtain ⟨gfa, Afa, kfa, cfa, gfb, Afb, kfb, cfb, gfc, Afc, kfc, cfc, gfd, Afd, kfd, cfd, Afe, kfe, cfe, gff, Aff, kff, cff, gfg, Afg, kfg, cfg, gfh, Afh, kfh, cfh, gfi, Afi, kfi, cfi, Afj, kfj, cfj, rfl, hr⟩ := hr.open
          have HR := Lib.hid hr
          clear hr
          refine ckC hK9 HG HS.out jb (h := fun HG => ?_)
          clear hK9 K9
          refine tk0 (h := ?_)
          refine tk0 (h := ?_)
          refine tk0 (h := ?_)
          refine sop (h := fun K9 hK9 => ?_)
          have HTH : Hid (V44.there (V40.heap.size) 0 18) := fr_there HG (by simp)
          refine wp_store_mid 88 _ _ (by rfl) (V40.heap.size) 0 _ (by rfl) (by rfl) (by exact HTH.out) (by kernel_rfl) (by kernel_rfl) ?_
          obtain ⟨HTS, HBE⟩ := tot_store (g := V40.heap.size) HG (by simp) HR rfl rfl
          refine ckk hK9 (by exact HS.out _ HBE.out) (h := ?_)
          clear hK9 K9 HTH
          refine tk0 (h := ?_)
          refine seq_done (by kernel_rfl) ?_
          go_wp2_with fail
          go_meet
          case rel => exact ⟨_, rfl, rfl, HTS, HJ3.out _ HBE.out⟩
        · intro K9 hK9
          refine opI rfl hK9 HG HS.out ad m _ r HM.out (HAD.out _ HG.out.bel) m (Nat.zero_add m) (by omega) _ _ (h := fun A1 k1 V45 HG => ?_)
          clear hK9 K9
          refine nrm (h := ?_)
          refine plq 1 (h := ?_)
          refine plq 1 (h := ?_)
          refine seq_both (by kernel_rfl) (by rfl) (by rfl) ?_ ?_
          · intro K9 hK9
            go_simp
            refine ckL hK9 HG HS.out (h := fun V46 jb HG => ?_)
            clear hK9 K9
            refine sop (h := fun K9 hK9 => ?_)
            refine opI rfl hK9 HG HS.out ⟨wa.heap.size, 0, none⟩ 1 _ [p] rfl (blk_one (HG.out.blk (wa.heap.size) (.cells #[.int .i64 p] 3 (0, 0)) (by simp)).2.1) (m + 1) rfl (by omega) _ _ (h := fun A1 k1 V47 HG => ?_)
            clear hK9 K9
            refine nrm (h := ?_)
            refine sop (h := fun K9 hK9 => ?_)
            go_simp
            refine (HIT.out _ _ (own_ints (HG.out.row _ _ _ rfl) (by rw [List.map_append]; rfl))).mono ?_
            rintro e V48 ⟨⟨vx, rfl, hr⟩, jb⟩
            obtain ⟨gfa, Afa, kfa, cfa, gfb, Afb, kfb, cfb, gfc, Afc, kfc, cfc, gfd, Afd, kfd, cfd, Afe, kfe, cfe, gff, Aff, kff, cff, gfg, Afg, kfg, cfg, gfh, Afh, kfh, cfh, gfi, Afi, kfi, cfi, Afj, kfj, cfj, rfl, hr⟩ := hr.open
            have HR := Lib.hid hr
            clear hr
            refine ckC hK9 HG HS.out jb (h := fun HG => ?_)
            clear hK9 K9
            refine tk0 (h := ?_)
            refine tk0 (h := ?_)
            refine tk0 (h := ?_)
            refine sop (h := fun K9 hK9 => ?_)
            have HTH : Hid (V48.there (V45.heap.size) 0 18) := fr_there HG (by simp)
            refine wp_store_mid 88 _ _ (by rfl) (V45.heap.size) 0 _ (by rfl) (by rfl) (by exact HTH.out) (by kernel_rfl) (by kernel_rfl) ?_
            obtain ⟨HTS, HBE⟩ := tot_store (g := V45.heap.size) HG (by simp) HR rfl rfl
            refine ckk hK9 (by exact HS.out _ HBE.out) (h := ?_)
            clear hK9 K9 HTH
            refine tk0 (h := ?_)
            refine seq_done (by kernel_rfl) ?_
            go_wp2_with fail
            go_meet
            case rel => exact ⟨_, rfl, rfl, HTS, HJ3.out _ HBE.out⟩
          · intro K9 hK9
            refine opI rfl hK9 HG HS.out ⟨wa.heap.size, 0, none⟩ 1 _ [p] rfl (blk_one (HG.out.blk (wa.heap.size) (.cells #[.int .i64 p] 3 (0, 0)) (by simp)).2.1) (m + 1) rfl (by omega) _ _ (h := fun A1 k1 V49 HG => ?_)
            clear hK9 K9
            refine nrm (h := ?_)
            refine plq 1 (h := ?_)
            refine plq 1 (h := ?_)
            refine seq_both (by kernel_rfl) (by rfl) (by rfl) ?_ ?_
            · intro K9 hK9
              go_simp
              refine ckL hK9 HG HS.out (h := fun V50 jb HG => ?_)
              clear hK9 K9
              refine sop (h := fun K9 hK9 => ?_)
              go_simp
              refine (HIT.out _ _ (own_ints (HG.out.row _ _ _ rfl) (by rw [List.map_append]; rfl))).mono ?_
              rintro e V51 ⟨⟨vx, rfl, hr⟩, jb⟩
              obtain ⟨gfa, Afa, kfa, cfa, gfb, Afb, kfb, cfb, gfc, Afc, kfc, cfc, gfd, Afd, kfd, cfd, Afe, kfe, cfe, gff, Aff, kff, cff, gfg, Afg, kfg, cfg, gfh, Afh, kfh, cfh, gfi, Afi, kfi, cfi, Afj, kfj, cfj, rfl, hr⟩ := hr.open
              have HR := Lib.hid hr
              clear hr
              refine ckC hK9 HG HS.out jb (h := fun HG => ?_)
              clear hK9 K9
              refine tk0 (h := ?_)
              refine tk0 (h := ?_)
              refine tk0 (h := ?_)
              refine sop (h := fun K9 hK9 => ?_)
              have HTH : Hid (V51.there (V49.heap.size) 0 18) := fr_there HG (by simp)
              refine wp_store_mid 88 _ _ (by rfl) (V49.heap.size) 0 _ (by rfl) (by rfl) (by exact HTH.out) (by kernel_rfl) (by kernel_rfl) ?_
              obtain ⟨HTS, HBE⟩ := tot_store (g := V49.heap.size) HG (by simp) HR rfl rfl
              refine ckk hK9 (by exact HS.out _ HBE.out) (h := ?_)
              clear hK9 K9 HTH
              refine tk0 (h := ?_)
              refine seq_done (by kernel_rfl) ?_
              go_wp2_with fail
              go_meet
              case rel => exact ⟨_, rfl, rfl, HTS, HJ3.out _ HBE.out⟩
            · intro K9 hK9
              go_simp
              refine (HIT.out _ _ (own_ints (HG.out.row _ _ _ rfl) (by rw [List.map_append]; rfl))).mono ?_
              rintro e V52 ⟨⟨vx, rfl, hr⟩, jb⟩
              obtain ⟨gfa, Afa, kfa, cfa, gfb, Afb, kfb, cfb, gfc, Afc, kfc, cfc, gfd, Afd, kfd, cfd, Afe, kfe, cfe, gff, Aff, kff, cff, gfg, Afg, kfg, cfg, gfh, Afh, kfh, cfh, gfi, Afi, kfi, cfi, Afj, kfj, cfj, rfl, hr⟩ := hr.open
              have HR := Lib.hid hr
              clear hr
              refine ckC hK9 HG HS.out jb (h := fun HG => ?_)
              clear hK9 K9
              refine plq 1 (h := ?_)
              refine tk0 (h := ?_)
              refine plq 1 (h := ?_)
              refine tk0 (h := ?_)
              refine plq 1 (h := ?_)
              refine tk0 (h := ?_)
              refine sop (h := fun K9 hK9 => ?_)
              go_simp
              refine ckL hK9 HG HS.out (h := fun V53 jb HG => ?_)
              clear hK9 K9
              replace HR := kV jb HR
              refine sop (h := fun K9 hK9 => ?_)
              have HTH : Hid (V53.there (V52.heap.size) 0 18) := fr_there HG (by simp)
              refine wp_store_mid 88 _ _ (by rfl) (V52.heap.size) 0 _ (by rfl) (by rfl) (by exact HTH.out) (by kernel_rfl) (by kernel_rfl) ?_
              obtain ⟨HTS, HBE⟩ := tot_store (g := V52.heap.size) HG (by simp) HR rfl rfl
              refine ckk hK9 (by exact HS.out _ HBE.out) (h := ?_)
              clear hK9 K9 HTH
              refine tk0 (h := ?_)
              refine seq_done (by kernel_rfl) ?_
              go_wp2_with fail
              go_meet
              case rel => exact ⟨_, rfl, rfl, HTS, HJ3.out _ HBE.out⟩
      · intro K9 hK9
        go_simp
        refine ckL hK9 HG HS.out (h := fun V54 jb HG => ?_)
        clear hK9 K9
        refine sop (h := fun K9 hK9 => ?_)
        go_simp
        refine ckB hK9 HG HS.out (h := fun V55 jb HG => ?_)
        clear hK9 K9
        refine sop (h := fun K9 hK9 => ?_)
        refine opI rfl hK9 HG HS.out ad m _ r HM.out (HAD.out _ HG.out.bel) m (Nat.zero_add m) (by omega) _ _ (h := fun A1 k1 V56 HG => ?_)
        clear hK9 K9
        refine nrm (h := ?_)
        refine sop (h := fun K9 hK9 => ?_)
        refine opI rfl hK9 HG HS.out ⟨wa.heap.size, 0, none⟩ 1 _ [p] rfl (blk_one (HG.out.blk (wa.heap.size) (.cells #[.int .i64 p] 3 (0, 0)) (by simp)).2.1) (m + 1) rfl (by omega) _ _ (h := fun A1 k1 V57 HG => ?_)
        clear hK9 K9
        refine nrm (h := ?_)
        refine sop (h := fun K9 hK9 => ?_)
        go_simp
        refine (HIT.out _ _ (own_ints (HG.out.row _ _ _ rfl) (by rw [List.map_append]; rfl))).mono ?_
        rintro e V58 ⟨⟨vx, rfl, hr⟩, jb⟩
        obtain ⟨gfa, Afa, kfa, cfa, gfb, Afb, kfb, cfb, gfc, Afc, kfc, cfc, gfd, Afd, kfd, cfd, Afe, kfe, cfe, gff, Aff, kff, cff, gfg, Afg, kfg, cfg, gfh, Afh, kfh, cfh, gfi, Afi, kfi, cfi, Afj, kfj, cfj, rfl, hr⟩ := hr.open
        have HR := Lib.hid hr
        clear hr
        refine ckC hK9 HG HS.out jb (h := fun HG => ?_)
        clear hK9 K9
        refine tk0 (h := ?_)
        refine tk0 (h := ?_)
        refine tk0 (h := ?_)
        refine sop (h := fun K9 hK9 => ?_)
        have HTH : Hid (V58.there (V39.heap.size) 0 18) := fr_there HG (by simp)
        refine wp_store_mid 88 _ _ (by rfl) (V39.heap.size) 0 _ (by rfl) (by rfl) (by exact HTH.out) (by kernel_rfl) (by kernel_rfl) ?_
        obtain ⟨HTS, HBE⟩ := tot_store (g := V39.heap.size) HG (by simp) HR rfl rfl
        refine ckk hK9 (by exact HS.out _ HBE.out) (h := ?_)
        clear hK9 K9 HTH
        refine tk0 (h := ?_)
        refine seq_done (by kernel_rfl) ?_
        go_wp2_with fail
        go_meet
        case rel => exact ⟨_, rfl, rfl, HTS, HJ3.out _ HBE.out⟩
    · intro K9 hK9
      go_simp
      refine ckL hK9 HG HS.out (h := fun V59 jb HG => ?_)
      clear hK9 K9
      refine plq 1 (h := ?_)
      refine plq 1 (h := ?_)
      refine seq_both (by kernel_rfl) (by rfl) (by rfl) ?_ ?_
      · intro K9 hK9
        go_simp
        refine ckB hK9 HG HS.out (h := fun V60 jb HG => ?_)
        clear hK9 K9
        refine plq 1 (h := ?_)
        refine plq 1 (h := ?_)
        refine seq_both (by kernel_rfl) (by rfl) (by rfl) ?_ ?_
        · intro K9 hK9
          go_simp
          refine ckL hK9 HG HS.out (h := fun V61 jb HG => ?_)
          clear hK9 K9
          refine sop (h := fun K9 hK9 => ?_)
          refine opI rfl hK9 HG HS.out ad m _ r HM.out (HAD.out _ HG.out.bel) m (Nat.zero_add m) (by omega) _ _ (h := fun A1 k1 V62 HG => ?_)
          clear hK9 K9
          refine nrm (h := ?_)
          refine sop (h := fun K9 hK9 => ?_)
          refine opI rfl hK9 HG HS.out ⟨V60.heap.size, 0, none⟩ 1 _ [p] rfl (blk_one (HG.out.blk (V60.heap.size) (.cells #[.int .i64 p] 3 (0, 0)) (by simp)).2.1) (m + 1) rfl (by omega) _ _ (h := fun A1 k1 V63 HG => ?_)
          clear hK9 K9
          refine nrm (h := ?_)
          refine sop (h := fun K9 hK9 => ?_)
          go_simp
          refine (HIT.out _ _ (own_ints (HG.out.row _ _ _ rfl) (by rw [List.map_append]; rfl))).mono ?_
          rintro e V64 ⟨⟨vx, rfl, hr⟩, jb⟩
          obtain ⟨gfa, Afa, kfa, cfa, gfb, Afb, kfb, cfb, gfc, Afc, kfc, cfc, gfd, Afd, kfd, cfd, Afe, kfe, cfe, gff, Aff, kff, cff, gfg, Afg, kfg, cfg, gfh, Afh, kfh, cfh, gfi, Afi, kfi, cfi, Afj, kfj, cfj, rfl, hr⟩ := hr.open
          have HR := Lib.hid hr
          clear hr
          refine ckC hK9 HG HS.out jb (h := fun HG => ?_)
          clear hK9 K9
          refine tk0 (h := ?_)
          refine tk0 (h := ?_)
          refine tk0 (h := ?_)
          refine sop (h := fun K9 hK9 => ?_)
          have HTH : Hid (V64.there (wa.heap.size) 0 18) := fr_there HG (by simp)
          refine wp_store_mid 88 _ _ (by rfl) (wa.heap.size) 0 _ (by rfl) (by rfl) (by exact HTH.out) (by kernel_rfl) (by kernel_rfl) ?_
          obtain ⟨HTS, HBE⟩ := tot_store (g := wa.heap.size) HG (by simp) HR rfl rfl
          refine ckk hK9 (by exact HS.out _ HBE.out) (h := ?_)
          clear hK9 K9 HTH
          refine tk0 (h := ?_)
          refine seq_done (by kernel_rfl) ?_
          go_wp2_with fail
          go_meet
          case rel => exact ⟨_, rfl, rfl, HTS, HJ3.out _ HBE.out⟩
        · intro K9 hK9
          refine opI rfl hK9 HG HS.out ad m _ r HM.out (HAD.out _ HG.out.bel) m (Nat.zero_add m) (by omega) _ _ (h := fun A1 k1 V65 HG => ?_)
          clear hK9 K9
          refine nrm (h := ?_)
          refine sop (h := fun K9 hK9 => ?_)
          go_simp
          refine ckL hK9 HG HS.out (h := fun V66 jb HG => ?_)
          clear hK9 K9
          refine sop (h := fun K9 hK9 => ?_)
          refine opI rfl hK9 HG HS.out ⟨V65.heap.size, 0, none⟩ 1 _ [p] rfl (blk_one (HG.out.blk (V65.heap.size) (.cells #[.int .i64 p] 3 (0, 0)) (by simp)).2.1) (m + 1) rfl (by omega) _ _ (h := fun A1 k1 V67 HG => ?_)
          clear hK9 K9
          refine nrm (h := ?_)
          refine sop (h := fun K9 hK9 => ?_)
          go_simp
          refine (HIT.out _ _ (own_ints (HG.out.row _ _ _ rfl) (by rw [List.map_append]; rfl))).mono ?_
          rintro e V68 ⟨⟨vx, rfl, hr⟩, jb⟩
          obtain ⟨gfa, Afa, kfa, cfa, gfb, Afb, kfb, cfb, gfc, Afc, kfc, cfc, gfd, Afd, kfd, cfd, Afe, kfe, cfe, gff, Aff, kff, cff, gfg, Afg, kfg, cfg, gfh, Afh, kfh, cfh, gfi, Afi, kfi, cfi, Afj, kfj, cfj, rfl, hr⟩ := hr.open
          have HR := Lib.hid hr
          clear hr
          refine ckC hK9 HG HS.out jb (h := fun HG => ?_)
          clear hK9 K9
          refine tk0 (h := ?_)
          refine tk0 (h := ?_)
          refine tk0 (h := ?_)
          refine sop (h := fun K9 hK9 => ?_)
          have HTH : Hid (V68.there (wa.heap.size) 0 18) := fr_there HG (by simp)
          refine wp_store_mid 88 _ _ (by rfl) (wa.heap.size) 0 _ (by rfl) (by rfl) (by exact HTH.out) (by kernel_rfl) (by kernel_rfl) ?_
          obtain ⟨HTS, HBE⟩ := tot_store (g := wa.heap.size) HG (by simp) HR rfl rfl
          refine ckk hK9 (by exact HS.out _ HBE.out) (h := ?_)
          clear hK9 K9 HTH
          refine tk0 (h := ?_)
          refine seq_done (by kernel_rfl) ?_
          go_wp2_with fail
          go_meet
          case rel => exact ⟨_, rfl, rfl, HTS, HJ3.out _ HBE.out⟩
      · intro K9 hK9
        go_simp
        refine ckL hK9 HG HS.out (h := fun V69 jb HG => ?_)
        clear hK9 K9
        refine sop (h := fun K9 hK9 => ?_)
        go_simp
        refine ckB hK9 HG HS.out (h := fun V70 jb HG => ?_)
        clear hK9 K9
        refine sop (h := fun K9 hK9 => ?_)
        refine opI rfl hK9 HG HS.out ad m _ r HM.out (HAD.out _ HG.out.bel) m (Nat.zero_add m) (by omega) _ _ (h := fun A1 k1 V71 HG => ?_)
        clear hK9 K9
        refine nrm (h := ?_)
        refine sop (h := fun K9 hK9 => ?_)
        refine opI rfl hK9 HG HS.out ⟨V59.heap.size, 0, none⟩ 1 _ [p] rfl (blk_one (HG.out.blk (V59.heap.size) (.cells #[.int .i64 p] 3 (0, 0)) (by simp)).2.1) (m + 1) rfl (by omega) _ _ (h := fun A1 k1 V72 HG => ?_)
        clear hK9 K9
        refine nrm (h := ?_)
        refine sop (h := fun K9 hK9 => ?_)
        go_simp
        refine (HIT.out _ _ (own_ints (HG.out.row _ _ _ rfl) (by rw [List.map_append]; rfl))).mono ?_
        rintro e V73 ⟨⟨vx, rfl, hr⟩, jb⟩
        obtain ⟨gfa, Afa, kfa, cfa, gfb, Afb, kfb, cfb, gfc, Afc, kfc, cfc, gfd, Afd, kfd, cfd, Afe, kfe, cfe, gff, Aff, kff, cff, gfg, Afg, kfg, cfg, gfh, Afh, kfh, cfh, gfi, Afi, kfi, cfi, Afj, kfj, cfj, rfl, hr⟩ := hr.open
        have HR := Lib.hid hr
        clear hr
        refine ckC hK9 HG HS.out jb (h := fun HG => ?_)
        clear hK9 K9
        refine tk0 (h := ?_)
        refine tk0 (h := ?_)
        refine tk0 (h := ?_)
        refine sop (h := fun K9 hK9 => ?_)
        have HTH : Hid (V73.there (wa.heap.size) 0 18) := fr_there HG (by simp)
        refine wp_store_mid 88 _ _ (by rfl) (wa.heap.size) 0 _ (by rfl) (by rfl) (by exact HTH.out) (by kernel_rfl) (by kernel_rfl) ?_
        obtain ⟨HTS, HBE⟩ := tot_store (g := wa.heap.size) HG (by simp) HR rfl rfl
        refine ckk hK9 (by exact HS.out _ HBE.out) (h := ?_)
        clear hK9 K9 HTH
        refine tk0 (h := ?_)
        refine seq_done (by kernel_rfl) ?_
        go_wp2_with fail
        go_meet
        case rel => exact ⟨_, rfl, rfl, HTS, HJ3.out _ HBE.out⟩
  case rest =>
    obtain ⟨g7, rfl, rfl, HT7, HB7⟩ := hcut
    have HBc : Hid (Below w.heap.size w wc) := HBw.out.trans (HB7.out.mono HBw.out.size)
    have HB5c : Hid (wc.heap[g5]? = some (.cells #[.bool gpa, .slice Apa kpa cpa, .bool gpb, .slice Apb kpb cpb, .bool gpc, .slice Apc kpc cpc, .bool gpd, .slice Apd kpd cpd, .slice Ape kpe cpe, .bool gpf, .slice Apf kpf cpf, .bool gpg, .slice Apg kpg cpg, .bool gph, .slice Aph kph cph, .bool gpi, .slice Api kpi cpi, .slice Apj kpj cpj] 88 (0, 0))) := kB HB5 HB7.out
    have HX5c := kV HB7.out HX5
    clear HX5 HB5 HBw HB7
    obtain ⟨cz, hz7, hr7⟩ := HT7.out
    obtain ⟨gqa, Aqa, kqa, cqa, gqb, Aqb, kqb, cqb, gqc, Aqc, kqc, cqc, gqd, Aqd, kqd, cqd, Aqe, kqe, cqe, gqf, Aqf, kqf, cqf, gqg, Aqg, kqg, cqg, gqh, Aqh, kqh, cqh, gqi, Aqi, kqi, cqi, Aqj, kqj, cqj, e, hr7⟩ := hr7.open
    injection e with e
    subst e
    have HB8 := Lib.hid hz7
    have HX8 := Lib.hid hr7
    clear hz7 hr7 HT7
    go_wp2_with fail
    refine (HI0.out wc HBc.out).mono ?_
    rintro e w5 ⟨⟨vx, rfl, hr⟩, j5⟩
    obtain ⟨gta, Ata, kta, cta, gtb, Atb, ktb, ctb, gtc, Atc, ktc, ctc, gtd, Atd, ktd, ctd, Ate, kte, cte, gtf, Atf, ktf, ctf, gtg, Atg, ktg, ctg, gth, Ath, kth, cth, gti, Ati, kti, cti, Atj, ktj, ctj, rfl, hr⟩ := hr.open
    have HX9 := Lib.hid hr
    clear hr HI0
    obtain ⟨g9, hg9⟩ : ∃ g, g = w5.heap.size := ⟨_, rfl⟩
    have HG9 := Lib.hid hg9
    obtain ⟨W5, HW5, HB9, HSZ_W6, j6⟩ := st_al0 w5 #[.bool false, .slice none 0 0, .bool false, .slice none 0 0, .bool false, .slice none 0 0, .bool false, .slice none 0 0, .slice none 0 0, .bool false, .slice none 0 0, .bool false, .slice none 0 0, .bool false, .slice none 0 0, .bool false, .slice none 0 0, .slice none 0 0] 88
    have HLE : Hid (w.heap.size ≤ w5.heap.size) := Nat.le_trans HBc.out.size j5.size
    have HQa : Hid (g5 ≠ w5.heap.size) := by show _ ≠ _; have := blk_lt HB5c.out; have := j5.size; omega
    have HQb : Hid (g7 ≠ w5.heap.size) := by show _ ≠ _; have := blk_lt HB8.out; have := j5.size; omega
    have hTH := blk_there (off := 0) (n := 18) HB9.out (Nat.le_of_ble_eq_true rfl)
    obtain ⟨W6, HW6⟩ : ∃ W, Hid (W = W5.setCells w5.heap.size 0 [.bool gta, .slice Ata kta cta, .bool gtb, .slice Atb ktb ctb, .bool gtc, .slice Atc ktc ctc, .bool gtd, .slice Atd ktd ctd, .slice Ate kte cte, .bool gtf, .slice Atf ktf ctf, .bool gtg, .slice Atg ktg ctg, .bool gth, .slice Ath kth cth, .bool gti, .slice Ati kti cti, .slice Atj ktj ctj]) := ⟨_, rfl⟩
    have T6 := kN (kM HW6) HB9 rfl rfl
    replace HX9 := kW T6 (kV j6 HX9)
    replace HX8 := kW T6 (kV j6 (kV j5 HX8))
    replace HX5c := kW T6 (kV j6 (kV j5 HX5c))
    replace HB5c := kO (kM HW6) (kB (kB HB5c j5) j6) HQa.out
    replace HB8 := kO (kM HW6) (kB (kB HB8 j5) j6) HQb.out
    replace HB9 := kP (ds := [.bool gta, .slice Ata kta cta, .bool gtb, .slice Atb ktb ctb, .bool gtc, .slice Atc ktc ctc, .bool gtd, .slice Atd ktd ctd, .slice Ate kte cte, .bool gtf, .slice Atf ktf ctf, .bool gtg, .slice Atg ktg ctg, .bool gth, .slice Ath kth cth, .bool gti, .slice Ati kti cti, .slice Atj ktj ctj]) (kM HW6) HB9 rfl rfl
    have HB6 := kS (kM HW6) HLE (kU (kU HBc j5) j6)
    rw [HW5.out] at hTH
    go_wp2_with (refine wpList_store_mid (by rfl) 88 _ _ (by rfl) w5.heap.size 0 _ (by rfl) (by rfl) (by exact hTH) (by kernel_rfl) (by kernel_rfl) ?_)
    rw [← HW5.out, ← HW6.out]
    rw [← HG9.out] at HB9 ⊢
    clear hg9 HG9 HW5 HW6 HSZ_W6 j5 j6 HBc HCR T6 hTH HLE HQa HQb
    have HBw := HB6
    clear HB6
    go_wp2_with fail
    obtain ⟨W1, hW1⟩ : ∃ W, W = W6.drew := ⟨_, rfl⟩
    have j1 : Below W6.heap.size W6 W1 := by rw [hW1]; exact (Below.refl _ _).drew
    replace HB8 := kB HB8 j1
    replace HB5c := kB HB5c j1
    replace HB9 := kB HB9 j1
    replace HBw := kU HBw j1
    refine seq_start (S := fun w' => w'.rangeAt (g7) 0 [.bool gqa, .slice Aqa kqa cqa, .bool gqb, .slice Aqb kqb cqb, .bool gqc, .slice Aqc kqc cqc, .bool gqd, .slice Aqd kqd cqd, .slice Aqe kqe cqe, .bool gqf, .slice Aqf kqf cqf, .bool gqg, .slice Aqg kqg cqg, .bool gqh, .slice Aqh kqh cqh, .bool gqi, .slice Aqi kqi cqi, .slice Aqj kqj cqj] ∧ w'.rangeAt (g5) 0 [.bool gpa, .slice Apa kpa cpa, .bool gpb, .slice Apb kpb cpb, .bool gpc, .slice Apc kpc cpc, .bool gpd, .slice Apd kpd cpd, .slice Ape kpe cpe, .bool gpf, .slice Apf kpf cpf, .bool gpg, .slice Apg kpg cpg, .bool gph, .slice Aph kph cph, .bool gpi, .slice Api kpi cpi, .slice Apj kpj cpj] ∧ w'.rangeAt (g9) 0 [.bool gta, .slice Ata kta cta, .bool gtb, .slice Atb ktb ctb, .bool gtc, .slice Atc ktc ctc, .bool gtd, .slice Atd ktd ctd, .slice Ate kte cte, .bool gtf, .slice Atf ktf ctf, .bool gtg, .slice Atg ktg ctg, .bool gth, .slice Ath kth cth, .bool gti, .slice Ati kti cti, .slice Atj ktj ctj] ∧ w'.cell? ⟨b, off, none⟩ = some (.int .i64 p)) (by kernel_rfl) (by kernel_rfl) (by rw [← hW1]; exact ⟨blk_all HB8.out, blk_all HB5c.out, blk_all HB9.out, HCP.out _ HBw.out⟩) ?_
    rw [← hW1]
    clear hW1
    iterate 6 refine tk0 (h := ?_)
    refine tkM 88 _ (g7) 0 _ _ (fun _ h => h.1) Tryz.underlying88 rfl (by kernel_rfl) (h := ?_)
    refine tkM 88 _ (g5) 0 _ _ (fun _ h => h.2.1) Tryz.underlying88 rfl (by kernel_rfl) (h := ?_)
    iterate 6 refine tkG (h := ?_)
    refine sop (h := fun K9 hK9 => ?_)
    go_simp
    refine (turn_any (-o * p) _ (by have := HOP.out; omega) (by have := HOP.out; omega)).mono ?_
    rintro e w1 ⟨⟨vx, rfl, hr⟩, j1c⟩
    obtain ⟨g1a, A1a, k1a, c1a, g1b, A1b, k1b, c1b, g1c, A1c, k1c, c1c, g1d, A1d, k1d, c1d, A1e, k1e, c1e, g1f, A1f, k1f, c1f, g1g, A1g, k1g, c1g, g1h, A1h, k1h, c1h, g1i, A1i, k1i, c1i, A1j, k1j, c1j, rfl, hr⟩ := hr.open
    have HR1 := Lib.hid hr
    clear hr
    replace HB8 := kB HB8 j1c
    replace HB5c := kB HB5c j1c
    replace HB9 := kB HB9 j1c
    replace HBw := kU HBw j1c
    refine ckk hK9 (by exact ⟨blk_all HB8.out, blk_all HB5c.out, blk_all HB9.out, HCP.out _ HBw.out⟩) (h := ?_)
    clear hK9 K9
    refine sop (h := fun K9 hK9 => ?_)
    go_simp
    replace HX5c := kV j1c (kV j1 HX5c)
    refine (wmul_any _ _ X (turn (-o * p)) 60 3 _ HX5c.out HR1.out (by omega) (by omega)).mono ?_
    rintro e w2 ⟨⟨vx, rfl, hr⟩, j2c⟩
    obtain ⟨g2a, A2a, k2a, c2a, g2b, A2b, k2b, c2b, g2c, A2c, k2c, c2c, g2d, A2d, k2d, c2d, A2e, k2e, c2e, g2f, A2f, k2f, c2f, g2g, A2g, k2g, c2g, g2h, A2h, k2h, c2h, g2i, A2i, k2i, c2i, A2j, k2j, c2j, rfl, hr⟩ := hr.open
    have HR2 := Lib.hid hr
    clear hr
    replace HB8 := kB HB8 j2c
    replace HB5c := kB HB5c j2c
    replace HB9 := kB HB9 j2c
    replace HBw := kU HBw j2c
    refine ckk hK9 (by exact ⟨blk_all HB8.out, blk_all HB5c.out, blk_all HB9.out, HCP.out _ HBw.out⟩) (h := ?_)
    clear hK9 K9
    refine sop (h := fun K9 hK9 => ?_)
    go_simp
    replace HX8 := kV j2c (kV j1c (kV j1 HX8))
    refine (wsame_yes _ _ Y (X.mul (turn (-o * p))) 60 (60 + 3 + 4 + (60 + 3 + 4) + 1) _ HX8.out HR2.out (by omega) (by omega) HXY.out).mono ?_
    rintro e w3 ⟨rfl, j3c⟩
    replace HB8 := kB HB8 j3c
    replace HB5c := kB HB5c j3c
    replace HB9 := kB HB9 j3c
    replace HBw := kU HBw j3c
    refine ckk hK9 (by exact ⟨blk_all HB8.out, blk_all HB5c.out, blk_all HB9.out, HCP.out _ HBw.out⟩) (h := ?_)
    clear hK9 K9
    iterate 2 refine tk0 (h := ?_)
    refine tkM 88 _ (g9) 0 _ _ (fun _ h => h.2.2.1) Tryz.underlying88 rfl (by kernel_rfl) (h := ?_)
    refine tkM 88 _ (g9) 0 _ _ (fun _ h => h.2.2.1) Tryz.underlying88 rfl (by kernel_rfl) (h := ?_)
    iterate 2 refine tkG (h := ?_)
    refine sop (h := fun K9 hK9 => ?_)
    go_simp
    refine (int_any ((m : Int) + 1) _ (by omega) (by omega)).mono ?_
    rintro e w4 ⟨⟨vx, rfl, hr⟩, j4c⟩
    obtain ⟨g4a, A4a, k4a, c4a, A4b, k4b, c4b, rfl, hr⟩ := hr.open
    have HR4 := Lib.hid hr
    clear hr
    replace HB8 := kB HB8 j4c
    replace HB5c := kB HB5c j4c
    replace HB9 := kB HB9 j4c
    replace HBw := kU HBw j4c
    refine ckk hK9 (by exact ⟨blk_all HB8.out, blk_all HB5c.out, blk_all HB9.out, HCP.out _ HBw.out⟩) (h := ?_)
    clear hK9 K9
    refine sop (h := fun K9 hK9 => ?_)
    go_simp
    replace HX9 := kV j4c (kV j3c (kV j2c (kV j1c (kV j1 HX9))))
    refine (wof_any _ _ X0 (((m : Int) + 1 : Int) : Rat) 60 1 _ HX9.out HR4.out (qs_int (by omega) (by omega)) (by omega)).mono ?_
    rintro e w5 ⟨⟨vx, rfl, hr⟩, j5c⟩
    obtain ⟨g5a, A5a, k5a, c5a, g5b, A5b, k5b, c5b, g5c, A5c, k5c, c5c, g5d, A5d, k5d, c5d, A5e, k5e, c5e, g5f, A5f, k5f, c5f, g5g, A5g, k5g, c5g, g5h, A5h, k5h, c5h, g5i, A5i, k5i, c5i, A5j, k5j, c5j, rfl, hr⟩ := hr.open
    have HR5 := Lib.hid hr
    clear hr
    replace HB8 := kB HB8 j5c
    replace HB5c := kB HB5c j5c
    replace HB9 := kB HB9 j5c
    replace HBw := kU HBw j5c
    refine ckk hK9 (by exact ⟨blk_all HB8.out, blk_all HB5c.out, blk_all HB9.out, HCP.out _ HBw.out⟩) (h := ?_)
    clear hK9 K9
    refine sop (h := fun K9 hK9 => ?_)
    go_simp
    replace HX9 := kV j5c HX9
    refine (wsame_yes _ _ X0 (.ofQ (((m : Int) + 1 : Int) : Rat)) 60 1 _ HX9.out HR5.out (by omega) (by omega) HX0.out).mono ?_
    rintro e w6 ⟨rfl, j6c⟩
    replace HB8 := kB HB8 j6c
    replace HB5c := kB HB5c j6c
    replace HB9 := kB HB9 j6c
    replace HBw := kU HBw j6c
    refine ckk hK9 (by exact ⟨blk_all HB8.out, blk_all HB5c.out, blk_all HB9.out, HCP.out _ HBw.out⟩) (h := ?_)
    clear hK9 K9
    iterate 2 refine tk0 (h := ?_)
    refine sop (h := fun K9 hK9 => ?_)
    go_simp
    refine (awake_any _).mono ?_
    rintro e w7 ⟨rfl, j7c⟩
    replace HB8 := kB HB8 j7c
    replace HB5c := kB HB5c j7c
    replace HB9 := kB HB9 j7c
    replace HBw := kU HBw j7c
    refine ckk hK9 (by exact ⟨blk_all HB8.out, blk_all HB5c.out, blk_all HB9.out, HCP.out _ HBw.out⟩) (h := ?_)
    clear hK9 K9
    iterate 2 refine tk0 (h := ?_)
    refine seq_done (by kernel_rfl) ?_
    go_wp2_with fail
    go_ret
    exact ⟨rfl, HBw.out⟩
end Go.Proofs.YtodckaioeomccaaGreat
