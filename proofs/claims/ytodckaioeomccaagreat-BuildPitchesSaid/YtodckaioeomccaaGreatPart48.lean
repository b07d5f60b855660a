/- The walk of the reference's Starts. The walk of the program's Starts; Autocorrelation, Noise, Starts and Impulses where the pitches are not right. -/
import Derived.Test.YtodckaioeomccaaGreatPart45
import Derived.Test.YtodckaioeomccaaGreatPart36
import Derived.Test.YtodckaioeomccaaGreatPart34
namespace Go.Proofs.YtodckaioeomccaaGreat
open Go.RowKit
set_option linter.unusedVariables false
set_option linter.unusedSimpArgs false
set_option maxRecDepth 100000
set_option maxHeartbeats 4000000
def startQ (l : List Int) : List Rat := (List.range l.length).map fun k => ratio (l.take k).sum l.sum
theorem startQ_len (l : List Int) : (startQ l).length = l.length := by unfold startQ; simp
theorem startQ_take (l : List Int) {k : Nat} (hk : k < l.length) : (startQ l).take (k + 1) = (startQ l).take k ++ [ratio (l.take k).sum l.sum] := map_take _ _ _ hk
theorem startQ_at (l : List Int) {k : Nat} (hk : k < l.length) : (startQ l)[k]? = some (ratio (l.take k).sum l.sum) := by
 unfold startQ
 rw [List.getElem?_map, List.getElem?_range hk]; rfl
theorem sum_pos {l : List Int} (h0 : 1 ≤ l.length) (hs : SmallP l) : 1 ≤ l.sum := by
 have key : ∀ m : List Int, SmallP m → 0 ≤ m.sum := fun m => by
  induction m with
  | nil => intro _; simp
  | cons a m ih => intro h; rw [List.sum_cons]; have := ih (fun x hx => h x (List.mem_cons_of_mem _ hx)); have := h a (List.mem_cons_self ..); omega
 match l, h0, hs with
 | a :: m, _, hs => rw [List.sum_cons]; have := key m (fun x hx => hs x (List.mem_cons_of_mem _ hx)); have := hs a (List.mem_cons_self ..); omega
theorem rstarts_any (v : Value) (l : List Int) (w : World) (h : RdL w v l) (hp : pitchE l = 0) :
  Calls Tryz.prog 54 #[v] w fun e w' => (∃ v', e = .returned v' ∧ RdRow RdF w' v' (startQ l)) ∧ Below w.heap.size w w' := by
 obtain ⟨hl0, hsm⟩ := pitch_parts hp
 have HSB := h0d (sum_small hsm hl0.2)
 have HSP := h0d (sum_pos hl0.1 hsm)
 have HSM : Hid (∀ (k : Nat) (x : Int), l[k]? = some x → (l.take (k + 1)).sum = (l.take k).sum + x) := fun k x h => sum_take h
 have HTO := h0d (fun w' (hb : Below w.heap.size w w') => total_any v l w' (h.below hb) hl0.2 hsm)
 obtain ⟨A, n, cap, rfl, hn, hcap, hmax, hcm, hc⟩ := h.open_
 have HN := h0d hn
 have HC := h0d hc
 have hn12 : n ≤ 12 := by rw [← hn]; exact hl0.2
 have HQL : Hid ((startQ l).length = n) := by show _ = _; rw [startQ_len]; exact hn
 obtain ⟨T, hT⟩ : ∃ T, T = l.sum := ⟨_, rfl⟩
 have HSB0 := HSB.out l.length
 rw [List.take_length, ← hT] at HSB0
 have HTK : Hid (∀ k, k < n → (startQ l).take (k + 1) = (startQ l).take k ++ [ratio (l.take k).sum T]) := fun k hk => by rw [hT]; exact startQ_take l (by omega)
 rw [← hT] at HTO HSP
 clear h hp hsm hl0 hc hn hcm hT
 go_enter Tryz.func54, Tryz.ntmps54
 go_wp2_with fail
 go_loopw [3, 4, 5] (fun ov sv iv wr => ∃ (k : Nat) (s : Int) (O : Option Addr) (c : Nat), k ≤ n ∧ ov = .slice O k c ∧ sv = .int .i64 s ∧ iv = .int .i64 (k : Int) ∧ Hid (s = (l.take k).sum) ∧ Hid (∃ ds, OneF w.heap.size (.slice O k c) ((startQ l).take k) w wr ds)) (fun _ _ iv _ => n - (intOf iv).toNat)
 case atStart => exact ⟨0, 0, none, 0, Nat.zero_le _, rfl, rfl, rfl, rfl, ⟨[], OneF.start (Nat.le_refl _)⟩⟩
 case round =>
  obtain ⟨k, s, O, c, hk, rfl, rfl, rfl, HS, HO⟩ := hrel
  have HB : Hid (Below w.heap.size w wr) := let ⟨_, h⟩ := HO.out; h.bel
  by_cases hlt : k < n
  ·obtain ⟨b, off, x, rfl, hb1, hx, hcx⟩ := HC.out k hlt
   have HYS := HSB.out k
   have HYS1 := HSB.out (k + 1)
   rw [HSM.out k x hx] at HYS1
   have HS1 : Hid (s + x = (l.take (k + 1)).sum) := by show _ = _; rw [HSM.out k x hx, HS.out]
   have HTK1 := h0d (HTK.out k hlt)
   rw [← HS.out] at HYS HYS1 HTK1
   have HLK : Hid (((startQ l).take k).length = k) := by show _ = _; rw [List.length_take, HQL.out]; omega
   have hw : IntKind.i64.wrap (s + x) = s + x := IntWalk.i64_in _ (by omega)
   have HNW : Hid (∀ W, Calls Tryz.prog 101 #[.int .i64 s, .int .i64 T] W fun e w' => (∃ v', e = .returned (.tuple #[v', .int .i64 0]) ∧ RdF w' v' (ratio s T)) ∧ Below W.heap.size W w') := fun W => rnew_any s T W (by omega) (by omega) (by omega) (by omega) (by have := HSP.out; omega)
   have HBL : Hid (b < w.heap.size ∧ w.cell? ⟨b, off + k, none⟩ = some (.int .i64 x)) := ⟨hb1, hcx⟩
   clear hx hb1 hcx HYS HYS1
   go_wp2_with fail
   refine (HTO.out _ HB.out).mono ?_
   rintro e w1 ⟨rfl, hwx⟩
   obtain rfl := hwx.symm
   clear hwx
   go_wp2_with fail
   refine (HNW.out _).mono ?_
   rintro e w2 ⟨⟨vx, rfl, hr⟩, j⟩
   obtain ⟨g, P, kp, cp, R, kr, cr, rfl, hr⟩ := hr.open
   obtain ⟨W3, HW3, HB3, s3w, b3⟩ := st_al0 w2 #[.bool g, .slice P kp cp, .slice R kr cr] 40
   obtain ⟨W4, HW4, HB4, s4w, b4⟩ := st_alk 1 2 #[.bool g, .slice P kp cp, .slice R kr cr] 40 s3w rfl
   have HO4 : Hid (∃ ds, OneF w.heap.size (.slice O k c) ((startQ l).take k) w W4 ds) := let ⟨_, h⟩ := HO.out; ⟨_, ((h.grow j).grow b3).grow b4⟩
   have HR4 := h0d ((hr.below b3).below b4)
   have c0 := kC HB3 0 rfl
   have c1 := kC HB3 1 rfl
   have c2 := kC HB3 2 rfl
   rw [HW3.out] at c0 c1 c2
   clear hr HO HB j b3 b4 HB3 s3w s4w
   go_wp2_with (at_builtin; rw [← HW3.out, ← HW4.out]; refine wpList_pushF rfl _ _ rfl rfl (w2.heap.size + 1) 1 g (.slice P kp cp) (.slice R kr cr) 40 (by rfl) HLK.out (by omega) ⟨(fun _ _ e => by cases e), rfl⟩ ⟨(fun _ _ e => by cases e), rfl⟩ HO4.out HB4.out HR4.out ?_; intro O5 c5 w5 HO5; replace HO5 := h0d HO5; have HB5 : Hid (Below w.heap.size w w5) := (let ⟨_, h⟩ := HO5.out; h.bel); have c9 : w5.cell? ⟨b, off + k, none⟩ = some (.int .i64 x) := (HB5.out.cell (p := ⟨b, off + k, none⟩) HBL.out.1).trans HBL.out.2)
   go_roundw
   case rel => exact ⟨k + 1, s + x, O5, c5, by omega, rfl, rfl, by go_num, HS1.out, by rw [HTK1.out]; exact HO5.out⟩
   case measure => simp [intOf]; omega
  ·obtain rfl : k = n := by omega
   have HTF : Hid ((startQ l).take k = startQ l) := List.take_of_length_le (by rw [HQL.out]; exact Nat.le_refl _)
   rw [HTF.out] at HO
   have HRD : Hid (RdRow RdF wr (.slice O k c) (startQ l)) := let ⟨_, h⟩ := HO.out; h.rd
   go_wp2_with fail
   go_ret
   exact ⟨⟨_, rfl, HRD.out⟩, HB.out⟩
end Go.Proofs.YtodckaioeomccaaGreat
namespace Go.Proofs.YtodckaioeomccaaGreat
open Go.RowKit
set_option linter.unusedVariables false
set_option linter.unusedSimpArgs false
set_option maxRecDepth 100000
set_option maxHeartbeats 4000000
theorem put_flat : ∀ (cs : List (Bool × Value × Value)) (k : Nat) (c : Bool × Value × Value), k < cs.length → putL (k * 3) (ratC c) (cs.flatMap ratC) = (cs.set k c).flatMap ratC
 | [], k, c, h => absurd h (Nat.not_lt_zero _)
 | x :: xs, 0, c, _ => by simp [putL, ratC]
 | x :: xs, k + 1, c, h => by
  have ih := put_flat xs k c (by simpa using h)
  unfold putL at ih ⊢
  rw [List.set_cons_succ, List.flatMap_cons, List.flatMap_cons, ← ih]
  have h1 : (k + 1) * 3 = (ratC x).length + k * 3 := by rw [ratC_len]; omega
  rw [h1, List.take_length_add_append, Nat.add_assoc, List.drop_length_add_append, List.append_assoc, List.append_assoc, List.append_assoc]
theorem flat_all {cs : List (Bool × Value × Value)} (h : ∀ c ∈ cs, notWB c.2.1 = true ∧ notWB c.2.2 = true) : (cs.flatMap ratC).all notWB = true := by
 rw [List.all_eq_true]
 intro u hu
 obtain ⟨c, hc, hu⟩ := List.mem_flatMap.1 hu
 unfold ratC at hu
 simp only [List.mem_cons, List.not_mem_nil, or_false] at hu
 rcases hu with rfl | rfl | rfl
 ·rfl
 ·exact (h c hc).1
 ·exact (h c hc).2
def BlkQ (w : World) (g n k : Nat) (qs : List Rat) : Prop := ∃ cs : List (Bool × Value × Value), w.heap[g]? = some (.cells (cs.flatMap ratC).toArray 32 (0, 0)) ∧ cs.length = n ∧ (∀ c ∈ cs, notWB c.2.1 = true ∧ notWB c.2.2 = true) ∧
 ∀ (i : Nat) c q, i < k → cs[i]? = some c → qs[i]? = some q → RdQ w (aggC c) q
theorem BlkQ.grow {w w' : World} {g n k : Nat} {qs : List Rat} (h : BlkQ w g n k qs) (hb : Below w.heap.size w w') : BlkQ w' g n k qs :=
 let ⟨cs, h1, h2, h3, h4⟩ := h; ⟨cs, blk_below h1 hb, h2, h3, fun i c q hi hc hq => (h4 i c q hi hc hq).below hb⟩
theorem BlkQ.there {w : World} {g n k : Nat} {qs : List Rat} (h : BlkQ w g n k qs) (i : Nat) (hi : i < n) : w.there g (i * 3) 3 := by
 obtain ⟨cs, h1, h2, h3, h4⟩ := h
 exact blk_there h1 (by rw [List.size_toArray, flat_len ratC_len, h2]; omega)
theorem BlkQ.set {w W : World} {g n k : Nat} {qs : List Rat} {b : Bool} {A B : Option Addr} {m c m' c' : Nat} {q : Rat} (h : BlkQ w g n k qs) (hk : k < n) (hq : qs[k]? = some q) (hr : RdQ w (.agg #[.bool b, .slice A m c, .slice B m' c']) q)
  (hW : Hid (W = w.setCells g (k * 3) [.bool b, .slice A m c, .slice B m' c'])) : BlkQ W g n (k + 1) qs := by
 obtain ⟨cs, h1, h2, h3, h4⟩ := h
 have hS := kM hW
 have hT : Wd w W := kN hS (h0d h1) (by simpa using flat_all h3) rfl
 refine ⟨cs.set k (b, .slice A m c, .slice B m' c'), (kP hS (h0d h1) (Nat.ble_eq_true_of_le (by rw [flat_len ratC_len, h2]; show k * 3 + 3 ≤ _; omega)) (put_flat cs k (b, .slice A m c, .slice B m' c') (by omega))).out, by rw [List.length_set, h2], fun x hx => ?_, fun i x y hi hx hy => ?_⟩
 ·rcases List.mem_or_eq_of_mem_set hx with hx | rfl
  ·exact h3 x hx
  ·exact ⟨rfl, rfl⟩
 ·by_cases he : i = k
  ·subst he
   rw [List.getElem?_set_self (by omega)] at hx
   rw [hq] at hy
   injection hx with hx; injection hy with hy
   subst hx hy
   exact hr.wd hT
  ·rw [List.getElem?_set_ne (fun e => he e.symm)] at hx
   exact (h4 i x y (by omega) hx hy).wd hT
theorem BlkQ.rd {w : World} {g n : Nat} {qs : List Rat} (h : BlkQ w g n n qs) (hl : qs.length = n) (hm : n ≤ maxLen) : RdRow RdQ w (.slice (some ⟨g, 0, none⟩) n n) qs := by
 obtain ⟨cs, h1, h2, h3, h4⟩ := h
 refine ⟨cs, ⟨some ⟨g, 0, none⟩, n, by rw [h2], by omega, hm, fun _ => ⟨g, 0, rfl, trivial, fun i x hx j u hu => ?_⟩⟩, by omega, fun i c q hc hq => h4 i c q (by have := (List.getElem?_eq_some_iff.1 hc).1; omega) hc hq⟩
 rw [Nat.zero_add, blk_cell h1, List.getElem?_toArray]
 exact flat_at ratC_len cs i x hx j u hu
theorem infoQ : (Tryz.prog.info? 32).map (fun i => (i.zero, i.size, i.bytes)) = some (some (.agg #[.bool false, .slice none 0 0, .slice none 0 0]), 3, 56) := by kernel_rfl
theorem madeQs (n : Nat) : madeCells (Value.agg #[.bool false, .slice none 0 0, .slice none 0 0]).cells (n * 3) = ((List.replicate n (false, Value.slice none 0 0, Value.slice none 0 0)).flatMap ratC).toArray := by
 have hz : (Value.agg #[.bool false, .slice none 0 0, .slice none 0 0]).cells = #[.bool false, .slice none 0 0, .slice none 0 0] := rfl
 rw [hz]
 apply Array.ext'
 unfold madeCells
 rw [Array.toList_map, Array.toList_range]
 show (List.range (n * 3)).map _ = (List.replicate n (false, Value.slice none 0 0, Value.slice none 0 0)).flatMap ratC
 induction n with
 | zero => rfl
 | succ n ih =>
  rw [List.replicate_succ', List.flatMap_append, ← ih, show (n + 1) * 3 = n * 3 + 1 + 1 + 1 by omega, List.range_succ, List.range_succ, List.range_succ, List.map_append, List.map_append, List.map_append, List.append_assoc, List.append_assoc]
  congr 1
  show [(#[Value.bool false, .slice none 0 0, .slice none 0 0] : Array Value)[(n * 3) % 3]!, (#[Value.bool false, .slice none 0 0, .slice none 0 0] : Array Value)[(n * 3 + 1) % 3]!, (#[Value.bool false, .slice none 0 0, .slice none 0 0] : Array Value)[(n * 3 + 1 + 1) % 3]!] = _
  rw [show (n * 3) % 3 = 0 by omega, show (n * 3 + 1) % 3 = 1 by omega, show (n * 3 + 1 + 1) % 3 = 2 by omega]
  rfl
theorem make_rats (n : Nat) (hc : n ≤ 1000) (w : World) :
  (Instr.makeSlice 108 (.int .i64 (n : Int)) (.int .i64 (n : Int))).run Tryz.prog w = .ok (.slice (some ⟨w.heap.size, 0, none⟩) n n) (w.alloc (.cells ((List.replicate n (false, Value.slice none 0 0, Value.slice none 0 0)).flatMap ratC).toArray 32)) := by
 obtain ⟨i0, hi, hz0, hz1, hz2⟩ := info_parts infoQ
 rw [run_make_rowN 108 32 i0 _ Tryz.underlying108 hi hz0 .i64 .i64 n n (Nat.le_refl _) (by rw [hz2]; omega) (by omega) w, hz1, madeQs]
theorem starts52_any (v : Value) (l : List Int) (w : World) (h : RdL w v l) (hp : pitchE l = 0) :
  Calls Tryz.prog 52 #[v] w fun e w' => (∃ v', e = .returned (.tuple #[v', .int .i64 0]) ∧ RdRow RdQ w' v' (startQ l)) ∧ Below w.heap.size w w' := by
 obtain ⟨hl0, hsm⟩ := pitch_parts hp
 have HP1 := h0d (pitched_any v l w h)
 rw [hp] at HP1
 have HSS := h0d (fun w' (hw : Below w.heap.size w w') => starts_any v l w' (h.below hw) hl0.2 hsm)
 have HSB := h0d (sum_small hsm hl0.2)
 have HSP := h0d (sum_pos hl0.1 hsm)
 obtain ⟨A, cap, rfl, -⟩ := h.at_
 obtain ⟨n, hn⟩ : ∃ n, n = l.length := ⟨_, rfl⟩
 have hsl : (startsL l).length = n := by rw [hn]; unfold startsL; simp
 have hn12 : n ≤ 12 := by rw [hn]; exact hl0.2
 obtain ⟨T, hT⟩ : ∃ T, T = l.sum := ⟨_, rfl⟩
 have HQA : Hid (∀ k, k < n → (startQ l)[k]? = some (ratio (l.take k).sum T)) := fun k hk => by rw [hT]; exact startQ_at l (by omega)
 have HQL : Hid ((startQ l).length = n) := by show _ = _; rw [startQ_len]; exact hn.symm
 have HT0 := HSB.out l.length
 rw [List.take_length] at HT0
 rw [← hT] at HSP HSS HT0
 have HLN := h0d hn
 clear h hp hsm hl0 hT hn
 go_enter Tryz.func52, Tryz.ntmps52
 go_wp2_with fail
 refine HP1.out.mono ?_
 rintro e w1 ⟨rfl, hbx⟩
 have HSC := h0d (HSS.out w1 hbx)
 have HB1 := h0d hbx
 clear hbx HP1 HSS
 go_wp2_with fail
 refine HSC.out.mono ?_
 rintro e w2 ⟨⟨sv, rfl, hso⟩, hbx⟩
 have HAT := h0d hso.rd
 obtain ⟨As, cs, rfl⟩ := hso.slice
 rw [hsl]
 have HB2 := kU HB1 hbx
 clear hbx hso HSC HB1
 have HCC : Hid (∀ k, k < n → ∃ b off, As = some ⟨b, off, none⟩ ∧ b < w2.heap.size ∧ w2.cell? ⟨b, off + k, none⟩ = some (.int .i64 (l.take k).sum)) := fun k hk => by
  obtain ⟨A', cap', e', h1, h2, h3, h4⟩ := HAT.out.at_
  obtain ⟨b, off, e1, e2, e4⟩ := h4 k (by rw [hsl]; exact hk)
  have e5 : atL (startsL l) k = (l.take k).sum := atL_of (by unfold startsL; rw [List.getElem?_map, List.getElem?_range (by have := HLN.out; omega)]; rfl)
  rw [e5] at e4
  injection e' with e6
  subst e1
  exact ⟨b, off, e6, e2, e4⟩
 have HMK := make_rats n (by omega)
 obtain ⟨C0, hC0⟩ : ∃ C, C = ((List.replicate n (false, Value.slice none 0 0, Value.slice none 0 0)).flatMap ratC).toArray := ⟨_, rfl⟩
 rw [← hC0] at HMK
 obtain ⟨W3, HW3, HB3, s3w, b3⟩ := st_al0 w2 C0 32
 have HQ3 : Hid (BlkQ W3 w2.heap.size n 0 (startQ l)) := ⟨List.replicate n (false, Value.slice none 0 0, Value.slice none 0 0), by rw [← hC0]; exact HB3.out, by simp, fun c hc => by rw [(List.mem_replicate.1 hc).2]; exact ⟨rfl, rfl⟩, fun i c q hi => absurd hi (Nat.not_lt_zero _)⟩
 have HB4 := kU HB2 b3
 have HG : Hid (w.heap.size ≤ w2.heap.size) := HB2.out.size
 have HG3 : Hid (w2.heap.size < W3.heap.size) := by show _ < _; have := s3w.out; omega
 have HC3 : Hid (∀ k, k < n → ∃ b off, As = some ⟨b, off, none⟩ ∧ b < w2.heap.size ∧ W3.cell? ⟨b, off + k, none⟩ = some (.int .i64 (l.take k).sum)) := fun k hk => let ⟨b, off, e, h1, h2⟩ := HCC.out k hk; ⟨b, off, e, h1, (b3.cell (p := ⟨b, off + k, none⟩) h1).trans h2⟩
 have HK0 : Hid (Keep (fun q => q < w2.heap.size) W3 W3) := Keep.refl _ _
 clear hC0 hsl HAT HCC HB2 HB3 s3w b3
 go_wp2_with fail
 rw [← HW3.out]
 obtain ⟨g, hg⟩ : ∃ g, g = w2.heap.size := ⟨_, rfl⟩
 rw [← hg] at HQ3 HG HG3 HC3 HK0 ⊢
 clear hg HW3 HMK
 go_loopw [8, 9, 25] (fun _ _ iv wr => ∃ (k : Nat), k ≤ n ∧ iv = .int .i64 (k : Int) ∧ Hid (BlkQ wr g n k (startQ l)) ∧ Hid (Keep (fun q => q < g) W3 wr) ∧ Hid (Below w.heap.size w wr)) (fun _ _ iv _ => n - (intOf iv).toNat)
 case atStart => exact ⟨0, Nat.zero_le _, rfl, HQ3.out, HK0.out, HB4.out⟩
 case round =>
  clear HQ3 HK0 HB4
  obtain ⟨k, hk, rfl, HQ, HKP, HBw⟩ := hrel
  by_cases hlt : k < n
  ·obtain ⟨b, off, rfl, hb1, hcx⟩ := HC3.out k hlt
   have c0 : wr.cell? ⟨b, off + k, none⟩ = some (.int .i64 (l.take k).sum) := (HKP.out.cell (p := ⟨b, off + k, none⟩) hb1).trans hcx
   have HYS := HSB.out k
   have HQK := h0d (HQA.out k hlt)
   obtain ⟨y, hy⟩ : ∃ y, y = (l.take k).sum := ⟨_, rfl⟩
   rw [← hy] at c0 HYS HQK
   have HIY : Hid (∀ W, Calls Tryz.prog 48 #[.int .i64 y] W fun e w' => (∃ v', e = .returned v' ∧ RdQ w' v' (y : Rat)) ∧ Below W.heap.size W w') := fun W => int_any y W (by omega) (by omega)
   have HIT : Hid (∀ W, Calls Tryz.prog 48 #[.int .i64 T] W fun e w' => (∃ v', e = .returned v' ∧ RdQ w' v' (T : Rat)) ∧ Below W.heap.size W w') := fun W => int_any T W (by have := HSP.out; omega) (by omega)
   have HRA : Hid (∀ W (a b : Value), RdQ W a (y : Rat) → RdQ W b (T : Rat) → Calls Tryz.prog 120 #[a, b] W fun e w' => (∃ v', e = .returned v' ∧ RdQ w' v' (ratio y T)) ∧ Below W.heap.size W w') := fun W a b ha hb => by
    rw [ratio_div y T (by have := HSP.out; omega)]
    exact ratioB_any a b (y : Rat) (T : Rat) W ha hb (by have := HSP.out; exact fun e => by have e := Rat.intCast_inj.1 (e.trans (by rfl : (0 : Rat) = ((0 : Int) : Rat))); omega) ((qs_int (by omega) (by omega)).up (by omega)) ((qs_int (by have := HSP.out; omega) (by omega)).up (by omega))
   clear hcx hb1 hy HYS
   go_wp2_with fail
   refine (HIY.out _).mono ?_
   rintro e w4 ⟨⟨vx, rfl, hr1⟩, j1⟩
   go_wp2_with fail
   refine (HIT.out _).mono ?_
   rintro e w5 ⟨⟨vy, rfl, hr2⟩, j2⟩
   go_wp2_with fail
   refine (HRA.out _ _ _ (hr1.below j2) hr2).mono ?_
   rintro e w6 ⟨⟨vz, rfl, hr3⟩, j3⟩
   obtain ⟨gz, P, kp, cp, R, kr, cr, rfl, hr3⟩ := hr3.open
   have jj := tt (tt j1 j2) j3
   have HQ6 : Hid (BlkQ w6 g n k (startQ l)) := HQ.out.grow jj
   have HTH : Hid (w6.there g (k * 3) 3) := HQ6.out.there k hlt
   obtain ⟨W7, HW7⟩ : ∃ W, Hid (W = w6.setCells g (k * 3) [.bool gz, .slice P kp cp, .slice R kr cr]) := ⟨_, rfl⟩
   have HQ7 := h0d (HQ6.out.set hlt HQK.out hr3 HW7)
   have HB6 := kU HBw jj
   have HB7 : Hid (Below w.heap.size w W7) := (kS (a := w) (kM HW7) HG HB6)
   have HK6 : Hid (Keep (fun q => q < g) W3 w6) := HKP.out.trans ((Keep.of_below jj).mono fun q hq => Nat.lt_of_lt_of_le (Nat.lt_trans hq HG3.out) HKP.out.size)
   have HK7 : Hid (Keep (fun q => q < g) W3 W7) := keep_sets HK6.out (kM HW7) (Nat.lt_irrefl _)
   clear hr1 hr2 hr3 j1 j2 j3 jj HQ HQ6 HBw HB6 HKP HK6
   go_wp2_with (refine smd 32 g (k * 3) (ht := by exact HTH) (h := ?_); rw [← HW7.out])
   go_roundw
   case rel => exact ⟨k + 1, by omega, by go_num, HQ7.out, HK7.out, HB7.out⟩
   case measure => simp [intOf]; omega
  ·obtain rfl : k = n := by omega
   have HRD := h0d (HQ.out.rd HQL.out (by unfold maxLen; omega))
   go_wp2_with fail
   go_ret2
   exact ⟨⟨_, rfl, HRD.out⟩, HBw.out⟩
theorem auto_bad (v : Value) (l : List Int) (w : World) (h : RdL w v l) (hp : pitchE l ≠ 0) :
  Calls Tryz.prog 34 #[v] w fun e w' => e = .returned (.tuple #[.slice none 0 0, .int .i64 (pitchE l)]) ∧ Below w.heap.size w w' := by
 have HP := h0d (pitched_any v l w h)
 obtain ⟨z, hz⟩ : ∃ z, z = pitchE l := ⟨_, rfl⟩
 rw [← hz] at HP hp ⊢
 have hzb : (z == 0) = false := beq_false_of_ne hp
 clear h hz
 go_enter Tryz.func34, Tryz.ntmps34
 go_wp2_with fail
 refine HP.out.mono ?_
 rintro e w1 ⟨rfl, hbx⟩
 have HB := h0d hbx
 clear hbx
 go_wp2_with fail
 go_ret2
 exact ⟨rfl, HB.out⟩
theorem noise_bad (v : Value) (l : List Int) (w : World) (h : RdL w v l) (hp : pitchE l ≠ 0) :
  Calls Tryz.prog 35 #[v] w fun e w' => e = .returned (.tuple #[.int .i64 0, .int .i64 (pitchE l)]) ∧ Below w.heap.size w w' := by
 have HP := h0d (pitched_any v l w h)
 obtain ⟨z, hz⟩ : ∃ z, z = pitchE l := ⟨_, rfl⟩
 rw [← hz] at HP hp ⊢
 have hzb : (z == 0) = false := beq_false_of_ne hp
 clear h hz
 go_enter Tryz.func35, Tryz.ntmps35
 go_wp2_with fail
 refine HP.out.mono ?_
 rintro e w1 ⟨rfl, hbx⟩
 have HB := h0d hbx
 clear hbx
 go_wp2_with fail
 go_ret2
 exact ⟨rfl, HB.out⟩
theorem starts_bad (v : Value) (l : List Int) (w : World) (h : RdL w v l) (hp : pitchE l ≠ 0) :
  Calls Tryz.prog 52 #[v] w fun e w' => e = .returned (.tuple #[.slice none 0 0, .int .i64 (pitchE l)]) ∧ Below w.heap.size w w' := by
 have HP := h0d (pitched_any v l w h)
 obtain ⟨z, hz⟩ : ∃ z, z = pitchE l := ⟨_, rfl⟩
 rw [← hz] at HP hp ⊢
 have hzb : (z == 0) = false := beq_false_of_ne hp
 clear h hz
 go_enter Tryz.func52, Tryz.ntmps52
 go_wp2_with fail
 refine HP.out.mono ?_
 rintro e w1 ⟨rfl, hbx⟩
 have HB := h0d hbx
 clear hbx
 go_wp2_with fail
 go_ret2
 exact ⟨rfl, HB.out⟩
end Go.Proofs.YtodckaioeomccaaGreat
