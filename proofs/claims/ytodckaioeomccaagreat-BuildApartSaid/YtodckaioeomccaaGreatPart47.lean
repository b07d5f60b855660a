/- The walk of BuildApart. -/
import Derived.Test.YtodckaioeomccaaGreatPart46
import Derived.Test.YtodckaioeomccaaGreatPart26
namespace Go.Proofs.YtodckaioeomccaaGreat
open Go.RowKit
set_option linter.unusedVariables false
set_option linter.unusedSimpArgs false
set_option maxRecDepth 100000 in
set_option maxHeartbeats 2000000 in
theorem buildApart_any (v : Value) (l : List Int) (w : World) (h : RdL w v l) :
    Calls Tryz.prog 6 #[v] w fun e w' => e = .returned (.bool true) ∧ Below w.heap.size w w' := by
  have HV := Lib.hid h
  obtain ⟨A, n, cap, rfl, hn, hcap, hmax, hcm, hc⟩ := h.open_
  by_cases h60 : 60 < n
  · have hb : (60 : Int) < (n : Int) := by omega
    clear h hc hn hcm
    go_enter Tryz.func6, Tryz.ntmps6
    go_wp2_with fail
    refine (awake_any _).mono ?_
    rintro e w1 ⟨rfl, hbx⟩
    go_wp2_with fail
    go_ret
    exact ⟨rfl, hbx⟩
  · have hb : ¬ (60 : Int) < (n : Int) := by omega
    have HHC := Lib.hid hc
    have HA := Lib.hid (apart_any31 _ l w h)
    by_cases h8 : 8 < n
    · have hb8 : (8 : Int) < (n : Int) := by omega
      have he : apE l = 4 := if_pos (by omega)
      have hr : apR l = 0 := by unfold apR; rw [he, if_neg (by decide)]
      rw [he, hr] at HA
      clear h hc hn hcm he hr
      go_enter Tryz.func6, Tryz.ntmps6
      go_wp2_with fail
      refine HA.out.mono ?_
      rintro e w1 ⟨rfl, hbx⟩
      have HB := Lib.hid hbx
      clear hbx
      go_wp2_with fail
      refine (awake_any _).mono ?_
      rintro e w2 ⟨rfl, hbx⟩
      replace HB := kU HB hbx
      clear hbx
      go_wp2_with fail
      go_ret
      exact ⟨rfl, HB.out⟩
    · have hb8 : ¬ (8 : Int) < (n : Int) := by omega
      have HF : Hid (∀ w', Below w.heap.size w w' → ∀ k, k < n → ∃ b off, A = some ⟨b, off, none⟩ ∧ w'.cell? ⟨b, off + k, none⟩ = some (.int .i64 (atL l k))) := fun w' hw k hk => by
        obtain ⟨b, off, x, h1, h2, h3, h4⟩ := hc k hk
        exact ⟨b, off, h1, by rw [atL_of h3]; exact (hw.cell (p := ⟨b, off + k, none⟩) h2).trans h4⟩
      by_cases hp : PlacesOk l
      · have he : apE l = 0 := by unfold apE; rw [if_neg (by omega), if_pos hp]
        have hr : apR l = apA (atL l) l.length := by unfold apR; rw [if_pos he]
        have HR := Lib.hid (fun w h => rapart_any (.slice A n cap) l w h hp (by omega))
        rw [← hr] at HR
        rw [he] at HA
        have HFB : Hid (∀ k, k < n → 0 ≤ atL l k ∧ atL l k < 24) := fun k hk => by
          obtain ⟨b, off, x, h1, h2, h3, h4⟩ := hc k hk
          rw [atL_of h3]; exact hp x (List.mem_of_getElem? h3)
        obtain ⟨r, hrr⟩ : ∃ r, r = apR l := ⟨_, rfl⟩
        rw [← hrr] at HA HR
        clear h hc hn hcm he hr hrr
        go_enter Tryz.func6, Tryz.ntmps6
        go_wp2_with fail
        refine HA.out.mono ?_
        rintro e w1 ⟨rfl, hbx⟩
        have HB := Lib.hid hbx
        clear hbx HA
        go_wp2_with fail
        go_loop [30] (fun iv => ∃ k : Nat, k ≤ n ∧ iv = .int .i64 (k : Int)) (fun iv => n - (intOf iv).toNat)
        case atStart => exact ⟨0, by omega, rfl⟩
        case round =>
          obtain ⟨k, hk, rfl⟩ := hrel
          by_cases hlt : k < n
          · obtain ⟨b, off, rfl, hx⟩ := HF.out w1 HB.out k hlt
            obtain ⟨h1, h2⟩ := HFB.out k hlt
            obtain ⟨x, hxx⟩ : ∃ x, x = atL l k := ⟨_, rfl⟩
            rw [← hxx] at hx h1 h2
            have h1' : ¬ x < 0 := by omega
            have h2' : ¬ (24 : Int) ≤ x := by omega
            clear hxx h1 h2
            go_wp2_with fail
            go_round
            case rel => exact ⟨k + 1, by omega, by go_num⟩
            case measure => simp [intOf]; omega
          · obtain rfl : k = n := by omega
            go_wp2_with fail
            refine (HR.out w1 (HV.out.below HB.out)).mono ?_
            rintro e w2 ⟨rfl, hbx⟩
            replace HB := kU HB hbx
            clear hbx
            go_wp2_with fail
            refine (awake_any _).mono ?_
            rintro e w3 ⟨rfl, hbx⟩
            replace HB := kU HB hbx
            clear hbx
            go_wp2_with fail
            go_ret
            exact ⟨rfl, HB.out⟩
      · have he : apE l = 1 := by unfold apE; rw [if_neg (by omega), if_neg hp]
        have hr : apR l = 0 := by unfold apR; rw [he, if_neg (by decide)]
        rw [he, hr] at HA
        have HNO : Hid (¬ ∀ k, k < n → 0 ≤ atL l k ∧ atL l k < 24) := fun hall => hp fun x hx => by
          obtain ⟨i, hi, rfl⟩ := List.mem_iff_getElem.1 hx
          have := hall i (by omega)
          rwa [atL_of (List.getElem?_eq_getElem hi)] at this
        clear h hc hn hcm he hr hp
        go_enter Tryz.func6, Tryz.ntmps6
        go_wp2_with fail
        refine HA.out.mono ?_
        rintro e w1 ⟨rfl, hbx⟩
        have HB := Lib.hid hbx
        clear hbx HA
        go_wp2_with fail
        go_loop [30] (fun iv => ∃ k : Nat, k ≤ n ∧ iv = .int .i64 (k : Int) ∧ Hid (∀ j, j < k → 0 ≤ atL l j ∧ atL l j < 24)) (fun iv => n - (intOf iv).toNat)
        case atStart => exact ⟨0, by omega, rfl, fun j hj => absurd hj (by omega)⟩
        case round =>
          obtain ⟨k, hk, rfl, HK⟩ := hrel
          by_cases hlt : k < n
          · obtain ⟨b, off, rfl, hx⟩ := HF.out w1 HB.out k hlt
            obtain ⟨x, hxx⟩ : ∃ x, x = atL l k := ⟨_, rfl⟩
            rw [← hxx] at hx
            have HXX := Lib.hid hxx
            clear hxx
            by_cases h1 : x < 0
            · go_wp2_with fail
              refine (awake_any _).mono ?_
              rintro e w2 ⟨rfl, hbx⟩
              replace HB := kU HB hbx
              clear hbx
              go_wp2_with fail
              go_ret
              exact ⟨rfl, HB.out⟩
            · by_cases h2 : (24 : Int) ≤ x
              · go_wp2_with fail
                refine (awake_any _).mono ?_
                rintro e w2 ⟨rfl, hbx⟩
                replace HB := kU HB hbx
                clear hbx
                go_wp2_with fail
                go_ret
                exact ⟨rfl, HB.out⟩
              · have HK1 : Hid (∀ j, j < k + 1 → 0 ≤ atL l j ∧ atL l j < 24) := fun j hj => by
                  rcases Nat.lt_or_ge j k with h | h
                  · exact HK.out j h
                  · obtain rfl : j = k := by omega
                    rw [← HXX.out]; omega
                go_wp2_with fail
                go_round
                case rel => exact ⟨k + 1, by omega, by go_num, HK1⟩
                case measure => simp [intOf]; omega
          · exact absurd (fun j hj => HK.out j (by omega)) HNO.out
end Go.Proofs.YtodckaioeomccaaGreat
