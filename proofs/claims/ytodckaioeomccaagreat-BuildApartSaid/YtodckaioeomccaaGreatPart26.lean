/- The walks of Apart, the program's and the reference's. -/
import Derived.Test.YtodckaioeomccaaGreatPart13
import Derived.Test.YtodckaioeomccaaGreatPart22
import Derived.Test.YtodckaioeomccaaGreatPart02
namespace Go.Proofs.YtodckaioeomccaaGreat
open Go.RowKit Go.Shelf
set_option linter.unusedVariables false
set_option linter.unusedSimpArgs false
abbrev PlacesOk (l : List Int) : Prop := ∀ x ∈ l, 0 ≤ x ∧ x < 24
/-- The least distance of place i and the first k. -/
def inA (f : Nat → Int) (i : Nat) (m : Int) : Nat → Int
  | 0 => m
  | k + 1 => min (inA f i m k) (apartN (f i) (f k))
/-- The least distance of the first i places. -/
def apA (f : Nat → Int) : Nat → Int
  | 0 => 24
  | i + 1 => inA f i (apA f i) i
theorem apartN_small {p q : Int} (hp : 0 ≤ p ∧ p < 24) (hq : 0 ≤ q ∧ q < 24) : 0 ≤ apartN p q ∧ apartN p q ≤ 12 := by unfold apartN; omega
theorem inA_small {f : Nat → Int} {i : Nat} {m : Int} (hm : 0 ≤ m ∧ m ≤ 24) (hi : 0 ≤ f i ∧ f i < 24) : ∀ {k : Nat}, (∀ j, j < k → 0 ≤ f j ∧ f j < 24) → 0 ≤ inA f i m k ∧ inA f i m k ≤ 24
  | 0, _ => hm
  | k + 1, h => by
    have h1 := inA_small hm hi (k := k) fun j hj => h j (by omega)
    have h2 := apartN_small hi (h k (by omega))
    unfold inA
    omega
theorem apA_small {f : Nat → Int} : ∀ {i : Nat}, (∀ j, j < i → 0 ≤ f j ∧ f j < 24) → 0 ≤ apA f i ∧ apA f i ≤ 24
  | 0, _ => by unfold apA; omega
  | i + 1, h => inA_small (apA_small fun j hj => h j (by omega)) (h i (by omega)) fun j hj => h j (by omega)
def apE (l : List Int) : Int := if 8 < l.length then 4 else if PlacesOk l then 0 else 1
def apR (l : List Int) : Int := if apE l = 0 then apA (atL l) l.length else 0
theorem enters_apart1 : ∀ args w, (callFunc 128 args).run Tryz.prog w = .ok (.enter 128 args) w := enters_of Tryz.func128 (by kernel_rfl) rfl
theorem apart1_any (p : Int) (w : World) : Calls Tryz.prog 128 #[.int .i64 p] w fun e w' => e = .returned (.bool (decide (p < 0 ∨ 24 ≤ p))) ∧ Below w.heap.size w w' := by
  by_cases h1 : p < 0
  · rw [decide_eq_true (.inl h1)]
    go_enter Tryz.func128, Tryz.ntmps128
    go_wp2_with fail
    go_ret
    exact ⟨rfl, Below.refl _ _⟩
  · by_cases h2 : 24 ≤ p
    · rw [decide_eq_true (.inr h2)]
      go_enter Tryz.func128, Tryz.ntmps128
      go_wp2_with fail
      go_ret
      exact ⟨rfl, Below.refl _ _⟩
    · rw [decide_eq_false (by omega)]
      go_enter Tryz.func128, Tryz.ntmps128
      go_wp2_with fail
      go_ret
      exact ⟨rfl, Below.refl _ _⟩
theorem anyA (l : List Int) : anyIdx (fun i => decide (atL l i < 0 ∨ 24 ≤ atL l i)) (l.map intV).length = !decide (PlacesOk l) := by
  unfold anyIdx PlacesOk
  rw [List.length_map, Bool.eq_iff_iff, List.any_eq_true]
  simp only [Bool.not_eq_true', decide_eq_false_iff_not]
  constructor
  · rintro ⟨i, hi, h⟩ hall
    have hi := List.mem_range.1 hi
    unfold atL at h
    rw [List.getD_eq_getElem?_getD, List.getElem?_eq_getElem hi] at h
    have h1 := hall _ (List.getElem_mem hi)
    have h2 := of_decide_eq_true h
    simp only [Option.getD_some] at h2
    omega
  · intro h
    refine Classical.byContradiction fun hc => h fun x hx => ?_
    obtain ⟨i, hi, rfl⟩ := List.mem_iff_getElem.1 hx
    refine Classical.byContradiction fun hq => hc ⟨i, List.mem_range.2 hi, ?_⟩
    unfold atL
    rw [List.getD_eq_getElem?_getD, List.getElem?_eq_getElem hi]
    simp only [Option.getD_some]
    exact decide_eq_true (by omega)
theorem placesC_any (v : Value) (l : List Int) (w : World) (hv : RdL w v l) :
    Calls Tryz.prog 91 #[v, .func (.func 128) #[] #[]] w fun e w' => e = .returned (.bool (!decide (PlacesOk l))) ∧ Below w.heap.size w w' := by
  rw [← anyA]
  refine containsFuncI_any v (l.map intV) (fun _ => True) 128 #[] enters_apart1 _ w hv.id (fun i u hu w' hb => ?_)
  rw [List.getElem?_map] at hu
  obtain ⟨y, hy, rfl⟩ := Option.map_eq_some_iff.1 hu
  rw [atL_of hy]
  exact apart1_any y w'
set_option maxRecDepth 100000 in
set_option maxHeartbeats 2000000 in
theorem apart_any31 (v : Value) (l : List Int) (w : World) (h : RdL w v l) :
    Calls Tryz.prog 31 #[v] w fun e w' => e = .returned (.tuple #[.int .i64 (apR l), .int .i64 (apE l)]) ∧ Below w.heap.size w w' := by
  have HC := Lib.hid (placesC_any v l w h)
  obtain ⟨A, n, cap, rfl, hn, hcap, hmax, hcm, hc⟩ := h.open_
  by_cases h8 : 8 < n
  · have he : apE l = 4 := if_pos (by omega)
    have hr : apR l = 0 := by unfold apR; rw [he, if_neg (by decide)]
    rw [he, hr]
    have hb : (8 : Int) < (n : Int) := by omega
    clear h hc hn hcm
    go_enter Tryz.func31, Tryz.ntmps31
    go_wp2_with fail
    go_ret2
    exact ⟨rfl, Below.refl _ _⟩
  · have hb : ¬ (8 : Int) < (n : Int) := by omega
    by_cases hp : PlacesOk l
    · have he : apE l = 0 := by unfold apE; rw [if_neg (by omega), if_pos hp]
      have hr : apR l = apA (atL l) n := by unfold apR; rw [if_pos he, hn]
      rw [he, hr]
      rw [decide_eq_true hp] at HC
      obtain ⟨f, hf⟩ : ∃ f, f = atL l := ⟨_, rfl⟩
      rw [← hf]
      have HF : Hid (∀ k, k < n → (∃ b off, A = some ⟨b, off, none⟩ ∧ b < w.heap.size ∧ w.cell? ⟨b, off + k, none⟩ = some (.int .i64 (f k))) ∧ 0 ≤ f k ∧ f k < 24) := fun k hk => by
        obtain ⟨b, off, x, h1, h2, h3, h4⟩ := hc k hk
        have e : f k = x := by rw [hf, atL_of h3]
        rw [e]
        exact ⟨⟨b, off, h1, h2, h4⟩, hp x (List.mem_of_getElem? h3)⟩
      have hn8 : n ≤ 8 := by omega
      clear h hc hn hcm hp he hr hf h8
      go_enter Tryz.func31, Tryz.ntmps31
      go_wp2_with fail
      refine HC.out.mono ?_
      rintro e w1 ⟨rfl, hbx⟩
      have HB := Lib.hid hbx
      clear hbx HC
      go_wp2_with fail
      go_loop [4, 16] (fun mv iv => ∃ (i : Nat) (m : Int), i ≤ n ∧ iv = .int .i64 (i : Int) ∧ mv = .int .i64 m ∧ Hid (m = apA f i)) (fun _ iv => n - (intOf iv).toNat)
      case atStart => exact ⟨0, 24, by omega, rfl, rfl, rfl⟩
      case round =>
        obtain ⟨i, m, hi, rfl, rfl, HM⟩ := hrel
        by_cases hlt : i < n
        · obtain ⟨⟨b, off, rfl, hbw, hx⟩, hxb⟩ := HF.out i hlt
          obtain ⟨x, hxx⟩ : ∃ x, x = f i := ⟨_, rfl⟩
          rw [← hxx] at hx hxb
          have HX := Lib.hid hxx
          have c1 := (HB.out.cell (p := ⟨b, off + i, none⟩) hbw).trans hx
          have hic : i ≤ cap := by omega
          clear hxx hx hbw
          go_wp2_with fail
          clear c1
          go_loop [4, 25] (fun mv kv => ∃ (k : Nat) (z : Int), k ≤ i ∧ kv = .int .i64 (k : Int) ∧ mv = .int .i64 z ∧ Hid (z = inA f i (apA f i) k)) (fun _ kv => i - (intOf kv).toNat)
          case atStart => exact ⟨0, m, by omega, rfl, rfl, HM.out⟩
          case round =>
            obtain ⟨k, z, hk, rfl, rfl, HZ⟩ := hrel
            by_cases hki : k < i
            · obtain ⟨⟨b', off', e, hbw, hy⟩, hyb⟩ := HF.out k (by omega)
              simp only [Option.some.injEq, Addr.mk.injEq] at e
              obtain ⟨rfl, rfl, _⟩ := e
              obtain ⟨y, hyy⟩ : ∃ y, y = f k := ⟨_, rfl⟩
              rw [← hyy] at hy hyb
              have c2 := (HB.out.cell (p := ⟨b, off + k, none⟩) hbw).trans hy
              have HA := Lib.hid (fun w => apart_any x y w hxb hyb)
              have HZ1 : Hid (min z (apartN x y) = inA f i (apA f i) (k + 1)) := by show _ = min _ _; rw [← HZ.out, ← hyy, ← HX.out]
              obtain ⟨d, hd⟩ : ∃ d, d = apartN x y := ⟨_, rfl⟩
              rw [← hd] at HA HZ1
              clear hyy hy hbw hd
              go_wp2_with fail
              refine (HA.out _).mono ?_
              rintro e w2 ⟨rfl, hwx⟩
              obtain rfl := hwx.symm
              clear c2
              go_wp2_with fail
              go_round
              case rel => exact ⟨k + 1, _, by omega, by go_num, rfl, HZ1⟩
              case measure => simp [intOf]; omega
            · obtain rfl : k = i := by omega
              go_wp2_with fail
              go_round
              case rel => exact ⟨k + 1, z, by omega, by go_num, rfl, HZ⟩
              case measure => simp [intOf]; omega
        · obtain rfl : i = n := by omega
          obtain ⟨r, hr⟩ : ∃ r, r = apA f i := ⟨_, rfl⟩
          have HE : Hid (m = apA f i) := HM
          rw [← hr] at HE
          obtain rfl : m = r := HE.out
          have HR := Lib.hid hr
          clear hr
          go_wp2_with fail
          go_ret2
          exact ⟨congrArg (fun z => Ending.returned (.tuple #[.int .i64 z, .int .i64 0])) HR.out, HB.out⟩
    · have he : apE l = 1 := by unfold apE; rw [if_neg (by omega), if_neg hp]
      have hr : apR l = 0 := by unfold apR; rw [he, if_neg (by decide)]
      rw [he, hr]
      rw [decide_eq_false hp] at HC
      clear h hc hn hcm hp he hr
      go_enter Tryz.func31, Tryz.ntmps31
      go_wp2_with fail
      refine HC.out.mono ?_
      rintro e w1 ⟨rfl, hbx⟩
      go_wp2_with fail
      go_ret2
      exact ⟨rfl, hbx⟩
theorem below_drewN2 (w : World) (n : Nat) : Below w.heap.size w (w.drewN n) := ⟨rfl, rfl, rfl, Nat.le_refl _, fun _ _ => rfl⟩
set_option maxRecDepth 100000 in
set_option maxHeartbeats 4000000 in
theorem rapart_any (v : Value) (l : List Int) (w : World) (h : RdL w v l) (hp : PlacesOk l) (hl : l.length ≤ 1000) :
    Calls Tryz.prog 32 #[v] w fun e w' => e = .returned (.int .i64 (apA (atL l) l.length)) ∧ Below w.heap.size w w' := by
  obtain ⟨A, n, cap, rfl, hn, hcap, hmax, hcm, hc⟩ := h.open_
  rw [hn] at hl ⊢
  obtain ⟨f, hf⟩ : ∃ f, f = atL l := ⟨_, rfl⟩
  rw [← hf]
  have HF : Hid (∀ k, k < n → (∃ b off, A = some ⟨b, off, none⟩ ∧ b < w.heap.size ∧ w.cell? ⟨b, off + k, none⟩ = some (.int .i64 (f k))) ∧ 0 ≤ f k ∧ f k < 24) := fun k hk => by
    obtain ⟨b, off, x, h1, h2, h3, h4⟩ := hc k hk
    have e : f k = x := by rw [hf, atL_of h3]
    rw [e]
    exact ⟨⟨b, off, h1, h2, h4⟩, hp x (List.mem_of_getElem? h3)⟩
  have HAS : Hid (∀ i, i ≤ n → 0 ≤ apA f i ∧ apA f i ≤ 24) := fun i hi => apA_small fun j hj => (HF.out j (by omega)).2
  have HIS : Hid (∀ i k, i < n → k ≤ i → 0 ≤ inA f i (apA f i) k ∧ inA f i (apA f i) k ≤ 24) := fun i k hi hk => inA_small (HAS.out i (by omega)) (HF.out i hi).2 fun j hj => (HF.out j (by omega)).2
  clear h hc hn hcm hp hf
  go_enter Tryz.func32, Tryz.ntmps32
  go_wp2_with fail
  go_loopw [3, 4] (fun mv iv wr => ∃ (i : Nat) (m : Int), i ≤ n ∧ iv = .int .i64 (i : Int) ∧ mv = .int .i64 m ∧ Hid (m = apA f i) ∧ Hid (Below w.heap.size w wr)) (fun _ iv _ => n - (intOf iv).toNat)
  case atStart => exact ⟨0, 24, by omega, rfl, rfl, rfl, Below.refl _ _⟩
  case round =>
    obtain ⟨i, m, hi, rfl, rfl, HM, HB⟩ := hrel
    by_cases hlt : i < n
    · have hw1 : IntKind.i64.wrap ((i : Int) + 1) = (i : Int) + 1 := IntWalk.i64_in _ (by omega)
      obtain ⟨wo, rfl⟩ : ∃ wo : World, wo = wr := ⟨_, rfl⟩
      go_wp2_with fail
      go_loopw [3, 5] (fun mv kv wr => ∃ (k : Nat) (z : Int), k ≤ i ∧ kv = .int .i64 (k : Int) ∧ mv = .int .i64 z ∧ Hid (z = inA f i (apA f i) k) ∧ Hid (Below w.heap.size w wr)) (fun _ kv _ => i - (intOf kv).toNat)
      case atStart => exact ⟨0, m, by omega, rfl, rfl, HM.out, HB⟩
      case round =>
        obtain ⟨k, z, hk, rfl, rfl, HZ, HB2⟩ := hrel
        by_cases hki : k < i
        · obtain ⟨⟨b, off, rfl, hbw, hx⟩, hxb⟩ := HF.out i hlt
          obtain ⟨⟨b', off', e, hbw', hy⟩, hyb⟩ := HF.out k (by omega)
          simp only [Option.some.injEq, Addr.mk.injEq] at e
          obtain ⟨rfl, rfl, _⟩ := e
          obtain ⟨x, hxx⟩ : ∃ x, x = f i := ⟨_, rfl⟩
          obtain ⟨y, hyy⟩ : ∃ y, y = f k := ⟨_, rfl⟩
          rw [← hxx] at hx hxb
          rw [← hyy] at hy hyb
          have c1 := (HB2.out.cell (p := ⟨b, off + i, none⟩) hbw).trans hx
          have c2 := (HB2.out.cell (p := ⟨b, off + k, none⟩) hbw').trans hy
          have hkn : k < n := by omega
          obtain ⟨d, hd⟩ : ∃ d, d = x - y := ⟨_, rfl⟩
          have hw2 : IntKind.i64.wrap (x - y) = d := by rw [hd]; exact IntWalk.i64_in _ (by omega)
          have hzb := HIS.out i k hlt hk
          rw [← HZ.out] at hzb
          have HZ1 : Hid (min z (apartN x y) = inA f i (apA f i) (k + 1)) := by show _ = min _ _; rw [← HZ.out, ← hyy, ← hxx]
          obtain ⟨u, hu⟩ : ∃ u, u = min z (apartN x y) := ⟨_, rfl⟩
          rw [← hu] at HZ1
          have hud : u = min z (min (if d < 0 then -d else d) (24 - (if d < 0 then -d else d))) := by
            rw [hu, hd]
            unfold apartN
            split <;> omega
          have hdb : -24 < d ∧ d < 24 := by omega
          have hw3 : IntKind.i64.wrap ((k : Int) + 1) = (k : Int) + 1 := IntWalk.i64_in _ (by omega)
          clear hxx hyy hx hy hbw hbw' hu hd hxb hyb
          go_wp2_with fail
          go_quiet (fail)
          clear c1 c2 hw2
          have HB3 : Hid (Below w.heap.size w (wr.drewN nq)) := HB2.out.trans ((below_drewN2 wr nq).mono HB2.out.size)
          by_cases h1 : d < 0
          · rw [if_pos h1] at hud
            by_cases h2 : 24 - -d < -d
            · by_cases h3 : 24 - -d < z
              · obtain rfl : u = 24 + d := by omega
                clear hud
                go_wp2_with fail
                go_roundw
                case rel => exact ⟨k + 1, _, by omega, by go_num, rfl, HZ1, HB3⟩
                case measure => simp [intOf]; omega
              · obtain rfl : u = z := by omega
                clear hud
                go_wp2_with fail
                go_roundw
                case rel => exact ⟨k + 1, _, by omega, by go_num, rfl, HZ1, HB3⟩
                case measure => simp [intOf]; omega
            · by_cases h3 : -d < z
              · obtain rfl : u = -d := by omega
                clear hud
                go_wp2_with fail
                go_roundw
                case rel => exact ⟨k + 1, _, by omega, by go_num, rfl, HZ1, HB3⟩
                case measure => simp [intOf]; omega
              · obtain rfl : u = z := by omega
                clear hud
                go_wp2_with fail
                go_roundw
                case rel => exact ⟨k + 1, _, by omega, by go_num, rfl, HZ1, HB3⟩
                case measure => simp [intOf]; omega
          · rw [if_neg h1] at hud
            by_cases h2 : 24 - d < d
            · by_cases h3 : 24 - d < z
              · obtain rfl : u = 24 - d := by omega
                clear hud
                go_wp2_with fail
                go_roundw
                case rel => exact ⟨k + 1, _, by omega, by go_num, rfl, HZ1, HB3⟩
                case measure => simp [intOf]; omega
              · obtain rfl : u = z := by omega
                clear hud
                go_wp2_with fail
                go_roundw
                case rel => exact ⟨k + 1, _, by omega, by go_num, rfl, HZ1, HB3⟩
                case measure => simp [intOf]; omega
            · by_cases h3 : d < z
              · obtain rfl : u = d := by omega
                clear hud
                go_wp2_with fail
                go_roundw
                case rel => exact ⟨k + 1, _, by omega, by go_num, rfl, HZ1, HB3⟩
                case measure => simp [intOf]; omega
              · obtain rfl : u = z := by omega
                clear hud
                go_wp2_with fail
                go_roundw
                case rel => exact ⟨k + 1, _, by omega, by go_num, rfl, HZ1, HB3⟩
                case measure => simp [intOf]; omega
        · obtain rfl : k = i := by omega
          go_wp2_with fail
          go_roundw
          case rel => exact ⟨k + 1, z, by omega, by go_num, rfl, HZ, HB2⟩
          case measure => simp [intOf]; omega
    · obtain rfl : i = n := by omega
      have HE := HM.out
      go_wp2_with fail
      go_ret
      exact ⟨ret_int HE, HB.out⟩
end Go.Proofs.YtodckaioeomccaaGreat
