/- The library's stable sort of jobs, and plant.sorted. -/
import Derived.Test.YtogccnngdfancaaGreatPart10
namespace Go.Proofs.YtogccnngdfancaaGreat
open Go.RowKit
set_option linter.unusedVariables false
set_option linter.unusedSimpArgs false
/-- A stretch of a list is sorted. -/
def SortedOn (l : List JobD) (u v : Nat) : Prop := ∀ i j x y, u ≤ i → i ≤ j → j < v → l[i]? = some x → l[j]? = some y → LeJ x y
theorem SortedOn.mono {l : List JobD} {u v u' v' : Nat} (h : SortedOn l u v) (h1 : u ≤ u') (h2 : v' ≤ v) : SortedOn l u' v' := fun i j x y a b c d e => h i j x y (by omega) b (by omega) d e
theorem SortedOn.all {l : List JobD} {v : Nat} (h : SortedOn l 0 v) (hv : l.length ≤ v) : SortedJ l := List.pairwise_iff_getElem.2 fun i j hi hj hij => h i j _ _ (Nat.zero_le _) (by omega) (by omega) (List.getElem?_eq_getElem hi) (List.getElem?_eq_getElem hj)
theorem SortedOn.same {l l' : List JobD} {u v : Nat} (h : SortedOn l u v) (hs : ∀ i, u ≤ i → i < v → l'[i]? = l[i]?) : SortedOn l' u v := fun i j x y a b c d e =>
  h i j x y a b c (by rw [← hs i a (by omega)]; exact d) (by rw [← hs j (by omega) c]; exact e)
theorem SortedOn.over {l : List JobD} {u v : Nat} (h : l.length ≤ u) : SortedOn l u v := fun i j x y a b c d e => by
  have := (List.getElem?_eq_some_iff.1 d).1; omega
theorem SortedOn.cap {l : List JobD} {u v v' : Nat} (h : SortedOn l u v) (hl : l.length ≤ v) : SortedOn l u v' := fun i j x y a b c d e => by
  have := (List.getElem?_eq_some_iff.1 e).1; exact h i j x y a b (by omega) d e
theorem seg_split (l : List JobD) (a b : Nat) (h : a ≤ b) (hb : b ≤ l.length) : ∃ A S C, l = A ++ S ++ C ∧ A.length = a ∧ S.length = b - a :=
  ⟨l.take a, (l.drop a).take (b - a), (l.drop a).drop (b - a), by rw [List.append_assoc, List.take_append_drop, List.take_append_drop], by simp; omega, by simp; omega⟩
theorem sortedOn_mid {A S C : List JobD} {a b : Nat} (ha : A.length = a) (hs : S.length = b - a) (hab : a ≤ b) : SortedOn (A ++ S ++ C) a b ↔ SortedJ S := by
  have g : ∀ i, i < S.length → (A ++ S ++ C)[a + i]? = S[i]? := fun i hi => by
    rw [List.append_assoc, List.getElem?_append_right (by omega), List.getElem?_append_left (by omega), show a + i - A.length = i by omega]
  constructor
  · intro h
    refine List.pairwise_iff_getElem.2 fun i j hi hj hij => h (a + i) (a + j) _ _ (by omega) (by omega) (by omega) ?_ ?_
    · rw [g i hi]; exact List.getElem?_eq_getElem hi
    · rw [g j hj]; exact List.getElem?_eq_getElem hj
  · intro h i j x y h1 h2 h3 h4 h5
    obtain ⟨i', rfl⟩ : ∃ i', i = a + i' := ⟨i - a, by omega⟩
    obtain ⟨j', rfl⟩ : ∃ j', j = a + j' := ⟨j - a, by omega⟩
    rw [g _ (by omega)] at h4 h5
    exact sorted_le h h4 h5 (by omega)
theorem out_same {A S Z C : List JobD} (hl : Z.length = S.length) {i : Nat} (hi : i < A.length ∨ A.length + S.length ≤ i) : (A ++ Z ++ C)[i]? = (A ++ S ++ C)[i]? := by
  rcases hi with hi | hi
  · rw [List.append_assoc, List.append_assoc, List.getElem?_append_left hi, List.getElem?_append_left hi]
  · rw [List.getElem?_append_right (by simp; omega), List.getElem?_append_right (by simp; omega)]; simp [hl]
/-- What becomes of a stretch that is sorted. -/
structure Segd (l l' : List JobD) (a b : Nat) : Prop where
  perm : l'.Perm l
  sorted : SortedOn l' a b
  same : ∀ i, i < a ∨ b ≤ i → l'[i]? = l[i]?
theorem segd_of {A S Z C : List JobD} {a b : Nat} (ha : A.length = a) (hs : S.length = b - a) (hab : a ≤ b) (hp : Z.Perm S) (hz : SortedJ Z) : Segd (A ++ S ++ C) (A ++ Z ++ C) a b :=
  ⟨(hp.append_left A).append_right C, (sortedOn_mid ha (by rw [hp.length_eq]; exact hs) hab).2 hz, fun i hi => out_same hp.length_eq (by omega)⟩
theorem insert_seg (B g n cap : Nat) (l : List JobD) (a b : Nat) (W0 w : World) (h : JRow B g n cap W0 w l) (hab : a ≤ b) (hb : b ≤ n) (hn : n ≤ 64) :
    Calls Tryz.prog 109 #[.slice (some ⟨g, 0, none⟩) n cap, .int .i64 (a : Int), .int .i64 (b : Int), .func (.func 51) #[] #[]] w fun e w' => (∃ v, e = .returned v) ∧ ∃ l', JRow B g n cap W0 w' l' ∧ Segd l l' a b := by
  obtain ⟨A, S, C, rfl, h1, h2⟩ := seg_split l a b hab (by rw [h.len]; exact hb)
  refine (insert_any B g n cap A S C a b W0 w h h1.symm (by omega) hn).mono ?_
  rintro e w' ⟨he, Z, z1, z2, z3⟩
  exact ⟨he, _, z1, segd_of h1 h2 hab z2 z3⟩
theorem sym_seg (B g n cap : Nat) (l : List JobD) (a m b : Nat) (W0 w : World) (h : JRow B g n cap W0 w l) (ham : a < m) (hmb : m < b) (hb : b ≤ n) (hn : n ≤ 64) (h1 : SortedOn l a m) (h2 : SortedOn l m b) :
    Calls Tryz.prog 110 #[.slice (some ⟨g, 0, none⟩) n cap, .int .i64 (a : Int), .int .i64 (m : Int), .int .i64 (b : Int), .func (.func 51) #[] #[]] w fun e w' => (∃ v, e = .returned v) ∧ ∃ l', JRow B g n cap W0 w' l' ∧ Segd l l' a b := by
  obtain ⟨A, S, C, rfl, k1, k2⟩ := seg_split l a b (by omega) (by rw [h.len]; exact hb)
  obtain ⟨X, Y, Y', hS, x1, x2⟩ := seg_split S 0 (m - a) (by omega) (by omega)
  obtain rfl : X = [] := List.length_eq_zero_iff.1 x1
  rw [List.nil_append] at hS
  subst hS
  have hx2 : Y.length = m - a := by omega
  have hy2 : Y'.length = b - m := by have := k2; rw [List.length_append] at this; omega
  have e1 : A ++ (Y ++ Y') ++ C = A ++ Y ++ (Y' ++ C) := by simp
  have e2 : A ++ (Y ++ Y') ++ C = (A ++ Y) ++ Y' ++ C := by simp
  have sx : SortedJ Y := (sortedOn_mid k1 hx2 (by omega)).1 (by rw [← e1]; exact h1)
  have sy : SortedJ Y' := (sortedOn_mid (A := A ++ Y) (a := m) (b := b) (C := C) (by rw [List.length_append]; omega) hy2 (by omega)).1 (by rw [← e2]; exact h2)
  refine Calls.mono (sym_any B g n cap W0 hn _ A Y Y' C a m b w (Nat.lt_succ_self _) (by rw [← e2]; exact h) k1.symm (by omega) (by omega) sx sy (by omega) (by omega)) ?_
  rintro e w' ⟨he, Z, z1, z2, z3⟩
  exact ⟨he, _, z1, segd_of k1 k2 (by omega) z2 z3⟩
set_option maxRecDepth 100000 in
set_option maxHeartbeats 8000000 in
theorem stable_any (B g n cap : Nat) (l : List JobD) (W0 w : World) (h : JRow B g n cap W0 w l) (hn : n ≤ 64) :
    Calls Tryz.prog 81 #[.slice (some ⟨g, 0, none⟩) n cap, .int .i64 (n : Int), .func (.func 51) #[] #[]] w fun e w' => (∃ v, e = .returned v) ∧ ∃ l', JRow B g n cap W0 w' l' ∧ l'.Perm l ∧ SortedJ l' := by
  have H0 := Lib.hid h
  have HL : Hid (∀ l' w', JRow B g n cap W0 w' l' → l'.length = n) := fun l' w' h => h.len
  have HINS := Lib.hid (fun l' a b w' (h : JRow B g n cap W0 w' l') (h1 : a ≤ b) (h2 : b ≤ n) => insert_seg B g n cap l' a b W0 w' h h1 h2 hn)
  have HSYM := Lib.hid (fun l' a m b w' (h : JRow B g n cap W0 w' l') (h1 : a < m) (h2 : m < b) (h3 : b ≤ n) => sym_seg B g n cap l' a m b W0 w' h h1 h2 h3 hn)
  clear h
  go_enter Tryz.func81, Tryz.ntmps81
  go_wp2_with fail
  go_loopw [7, 8] (fun av bv wr => ∃ (a : Nat) (l' : List JobD), av = .int .i64 (a : Int) ∧ bv = .int .i64 ((a : Int) + 20) ∧ a ≤ n ∧ Hid (a % 20 = 0) ∧ JRow B g n cap W0 wr l' ∧ Hid (l'.Perm l) ∧ Hid (∀ u, u % 20 = 0 → u + 20 ≤ a → SortedOn l' u (u + 20))) (fun av _ _ => n - (intOf av).toNat)
  case atStart => exact ⟨0, l, rfl, rfl, Nat.zero_le _, rfl, H0.out, List.Perm.refl _, fun u _ h => absurd h (by omega)⟩
  case round =>
    clear H0
    obtain ⟨a, l', rfl, rfl, han, HA, hrow, HP, HS⟩ := hrel
    have HROW := Lib.hid hrow
    clear hrow
    by_cases hle : a + 20 ≤ n
    · have hlei : (a : Int) + 20 ≤ (n : Int) := by omega
      have HC := Lib.hid (HINS.out l' a (a + 20) wr HROW.out (by omega) hle)
      have e1 : ((a + 20 : Nat) : Int) = (a : Int) + 20 := by omega
      rw [e1] at HC
      clear e1
      go_wp2_with fail
      refine HC.out.mono ?_
      rintro e w5 ⟨⟨v, rfl⟩, l2, hr2, hsg⟩
      have HR2 := Lib.hid hr2
      have HSG := Lib.hid hsg
      clear hr2 hsg
      go_wp2_with fail
      go_roundw
      case rel =>
        refine ⟨a + 20, l2, by go_num, by first | rfl | (congr 1; omega), hle, by have := HA.out; show _ % _ = _; omega, HR2.out, HSG.out.perm.trans HP.out, fun u h1 h2 => ?_⟩
        by_cases e : u = a
        · subst e; exact HSG.out.sorted
        · exact (HS.out u h1 (by have := HA.out; omega)).same fun i h3 h4 => HSG.out.same i (by have := HA.out; omega)
      case measure => simp [intOf]; omega
    · have hlei : ¬ ((a : Int) + 20 ≤ (n : Int)) := by omega
      have HC := Lib.hid (HINS.out l' a n wr HROW.out (by omega) (Nat.le_refl _))
      go_wp2_with fail
      refine HC.out.mono ?_
      rintro e w5 ⟨⟨v, rfl⟩, l2, hr2, hsg⟩
      have HR2 := Lib.hid hr2
      have HP2 : Hid (l2.Perm l) := hsg.perm.trans HP.out
      have HS2 : Hid (∀ u, u % 20 = 0 → SortedOn l2 u (u + 20)) := fun u hu => by
        have hl2 := HL.out _ _ hr2
        by_cases e : u + 20 ≤ a
        · exact (HS.out u hu e).same fun i h3 h4 => hsg.same i (by omega)
        · by_cases e2 : u = a
          · subst e2; exact hsg.sorted.cap (by omega)
          · exact SortedOn.over (by have := HA.out; omega)
      clear hr2 hsg HC HS HP HROW HA
      go_wp2_with fail
      go_loopw [6, 7, 8, 9] (fun sv _ _ _ wr => ∃ (s : Nat) (l' : List JobD), sv = .int .i64 (s : Int) ∧ Hid (s = 20 ∨ s = 40 ∨ s = 80) ∧ JRow B g n cap W0 wr l' ∧ Hid (l'.Perm l) ∧ Hid (∀ u, u % s = 0 → SortedOn l' u (u + s))) (fun sv _ _ _ _ => 80 - (intOf sv).toNat)
      case atStart => exact ⟨20, l2, rfl, .inl rfl, HR2.out, HP2.out, HS2.out⟩
      case round =>
        clear HR2 HP2 HS2
        obtain ⟨s, l3, rfl, HS, hrow, HP, HB⟩ := hrel
        have HROW := Lib.hid hrow
        clear hrow
        by_cases hsn : s < n
        · rcases (by have := HS.out; omega : s = 20 ∨ s = 40) with rfl | rfl
          · clear HS
            rw [show ((20 : Nat) : Int) = 20 from rfl]
            have hsi : (20 : Int) < (n : Int) := by omega
            go_wp2_with fail
            go_loopw [7, 8] (fun av bv wr' => ∃ (a : Nat) (l' : List JobD), av = .int .i64 (a : Int) ∧ bv = .int .i64 ((a : Int) + 40) ∧ a ≤ n ∧ Hid (a % 40 = 0) ∧ JRow B g n cap W0 wr' l' ∧ Hid (l'.Perm l) ∧ Hid (∀ u, u % 40 = 0 → u + 40 ≤ a → SortedOn l' u (u + 40)) ∧ Hid (∀ u, u % 20 = 0 → a ≤ u → SortedOn l' u (u + 20))) (fun av _ _ => n - (intOf av).toNat)
            case atStart => exact ⟨0, l3, rfl, rfl, Nat.zero_le _, rfl, HROW.out, HP.out, (fun u _ h => absurd h (by omega)), fun u h _ => HB.out u h⟩
            case round =>
              clear HROW HP HB
              obtain ⟨a, l', rfl, rfl, han, HA, hrow, HP, HS, HT⟩ := hrel
              have HROW := Lib.hid hrow
              clear hrow
              by_cases hle : a + 40 ≤ n
              · have hlei : (a : Int) + 40 ≤ (n : Int) := by omega
                have HC := Lib.hid (HSYM.out l' a (a + 20) (a + 40) wr HROW.out (by omega) (by omega) hle (HT.out a (by have := HA.out; omega) (Nat.le_refl _)) ((HT.out (a + 20) (by have := HA.out; omega) (by omega)).mono (Nat.le_refl _) (by omega)))
                have e1 : ((a + 40 : Nat) : Int) = (a : Int) + 40 := by omega
                have e2 : ((a + 20 : Nat) : Int) = (a : Int) + 20 := by omega
                rw [e1, e2] at HC
                clear e1 e2
                go_wp2_with fail
                refine HC.out.mono ?_
                rintro e w6 ⟨⟨v, rfl⟩, l4, hr2, hsg⟩
                have HR2 := Lib.hid hr2
                have HSG := Lib.hid hsg
                clear hr2 hsg
                go_wp2_with fail
                go_roundw
                case rel =>
                  refine ⟨a + 40, l4, by go_num, by first | rfl | (congr 1; omega), hle, by have := HA.out; show _ % _ = _; omega, HR2.out, HSG.out.perm.trans HP.out, fun u h1 h2 => ?_, fun u h1 h2 => ?_⟩
                  · by_cases e : u = a
                    · subst e; exact HSG.out.sorted
                    · exact (HS.out u h1 (by have := HA.out; omega)).same fun i h3 h4 => HSG.out.same i (by have := HA.out; omega)
                  · exact (HT.out u h1 (by omega)).same fun i h3 h4 => HSG.out.same i (by omega)
                case measure => simp [intOf]; omega
              · have hlei : ¬ ((a : Int) + 40 ≤ (n : Int)) := by omega
                have hfin : ∀ l4 w6, JRow B g n cap W0 w6 l4 → l4.Perm l → SortedOn l4 a n → (∀ i, i < a → l4[i]? = l'[i]?) → ∀ u, u % 40 = 0 → SortedOn l4 u (u + 40) := fun l4 w6 h1 h2 h3 h4 u hu => by
                  have hl4 := HL.out _ _ h1
                  by_cases e : u + 40 ≤ a
                  · exact (HS.out u hu e).same fun i _ _ => h4 i (by omega)
                  · by_cases e2 : u = a
                    · subst e2; exact h3.cap (by omega)
                    · exact SortedOn.over (by have := HA.out; omega)
                have HF := Lib.hid hfin
                clear hfin
                by_cases hm : a + 20 < n
                · have hmi : (a : Int) + 20 < (n : Int) := by omega
                  have HC := Lib.hid (HSYM.out l' a (a + 20) n wr HROW.out (by omega) hm (Nat.le_refl _) (HT.out a (by have := HA.out; omega) (Nat.le_refl _)) ((HT.out (a + 20) (by have := HA.out; omega) (by omega)).mono (Nat.le_refl _) (by omega)))
                  have e2 : ((a + 20 : Nat) : Int) = (a : Int) + 20 := by omega
                  rw [e2] at HC
                  clear e2
                  go_wp2_with fail
                  refine HC.out.mono ?_
                  rintro e w6 ⟨⟨v, rfl⟩, l4, hr2, hsg⟩
                  have HR2 := Lib.hid hr2
                  have HP2 : Hid (l4.Perm l) := hsg.perm.trans HP.out
                  have HQ := Lib.hid (HF.out l4 w6 hr2 HP2.out hsg.sorted (fun i hi => hsg.same i (.inl hi)))
                  clear hr2 hsg HC HF HS HT
                  go_wp2_with fail
                  go_roundw
                  case rel => exact ⟨40, l4, rfl, by show _ ∨ _; omega, HR2.out, HP2.out, HQ.out⟩
                  case measure => simp [intOf]
                · have hmi : ¬ ((a : Int) + 20 < (n : Int)) := by omega
                  have HQ := Lib.hid (HF.out l' wr HROW.out HP.out ((HT.out a (by have := HA.out; omega) (Nat.le_refl _)).mono (Nat.le_refl _) (by omega)) (fun i _ => rfl))
                  clear HF HS HT
                  go_wp2_with fail
                  go_roundw
                  case rel => exact ⟨40, l', rfl, by show _ ∨ _; omega, HROW.out, HP.out, HQ.out⟩
                  case measure => simp [intOf]
          · clear HS
            rw [show ((40 : Nat) : Int) = 40 from rfl]
            have hsi : (40 : Int) < (n : Int) := by omega
            go_wp2_with fail
            go_loopw [7, 8] (fun av bv wr' => ∃ (a : Nat) (l' : List JobD), av = .int .i64 (a : Int) ∧ bv = .int .i64 ((a : Int) + 80) ∧ a ≤ n ∧ Hid (a % 80 = 0) ∧ JRow B g n cap W0 wr' l' ∧ Hid (l'.Perm l) ∧ Hid (∀ u, u % 80 = 0 → u + 80 ≤ a → SortedOn l' u (u + 80)) ∧ Hid (∀ u, u % 40 = 0 → a ≤ u → SortedOn l' u (u + 40))) (fun av _ _ => n - (intOf av).toNat)
            case atStart => exact ⟨0, l3, rfl, rfl, Nat.zero_le _, rfl, HROW.out, HP.out, (fun u _ h => absurd h (by omega)), fun u h _ => HB.out u h⟩
            case round =>
              clear HROW HP HB
              obtain ⟨a, l', rfl, rfl, han, HA, hrow, HP, HS, HT⟩ := hrel
              have HROW := Lib.hid hrow
              clear hrow
              by_cases hle : a + 80 ≤ n
              · have hlei : (a : Int) + 80 ≤ (n : Int) := by omega
                have HC := Lib.hid (HSYM.out l' a (a + 40) (a + 80) wr HROW.out (by omega) (by omega) hle (HT.out a (by have := HA.out; omega) (Nat.le_refl _)) ((HT.out (a + 40) (by have := HA.out; omega) (by omega)).mono (Nat.le_refl _) (by omega)))
                have e1 : ((a + 80 : Nat) : Int) = (a : Int) + 80 := by omega
                have e2 : ((a + 40 : Nat) : Int) = (a : Int) + 40 := by omega
                rw [e1, e2] at HC
                clear e1 e2
                go_wp2_with fail
                refine HC.out.mono ?_
                rintro e w6 ⟨⟨v, rfl⟩, l4, hr2, hsg⟩
                have HR2 := Lib.hid hr2
                have HSG := Lib.hid hsg
                clear hr2 hsg
                go_wp2_with fail
                go_roundw
                case rel =>
                  refine ⟨a + 80, l4, by go_num, by first | rfl | (congr 1; omega), hle, by have := HA.out; show _ % _ = _; omega, HR2.out, HSG.out.perm.trans HP.out, fun u h1 h2 => ?_, fun u h1 h2 => ?_⟩
                  · by_cases e : u = a
                    · subst e; exact HSG.out.sorted
                    · exact (HS.out u h1 (by have := HA.out; omega)).same fun i h3 h4 => HSG.out.same i (by have := HA.out; omega)
                  · exact (HT.out u h1 (by omega)).same fun i h3 h4 => HSG.out.same i (by omega)
                case measure => simp [intOf]; omega
              · have hlei : ¬ ((a : Int) + 80 ≤ (n : Int)) := by omega
                have hfin : ∀ l4 w6, JRow B g n cap W0 w6 l4 → l4.Perm l → SortedOn l4 a n → (∀ i, i < a → l4[i]? = l'[i]?) → ∀ u, u % 80 = 0 → SortedOn l4 u (u + 80) := fun l4 w6 h1 h2 h3 h4 u hu => by
                  have hl4 := HL.out _ _ h1
                  by_cases e : u + 80 ≤ a
                  · exact (HS.out u hu e).same fun i _ _ => h4 i (by omega)
                  · by_cases e2 : u = a
                    · subst e2; exact h3.cap (by omega)
                    · exact SortedOn.over (by have := HA.out; omega)
                have HF := Lib.hid hfin
                clear hfin
                by_cases hm : a + 40 < n
                · have hmi : (a : Int) + 40 < (n : Int) := by omega
                  have HC := Lib.hid (HSYM.out l' a (a + 40) n wr HROW.out (by omega) hm (Nat.le_refl _) (HT.out a (by have := HA.out; omega) (Nat.le_refl _)) ((HT.out (a + 40) (by have := HA.out; omega) (by omega)).mono (Nat.le_refl _) (by omega)))
                  have e2 : ((a + 40 : Nat) : Int) = (a : Int) + 40 := by omega
                  rw [e2] at HC
                  clear e2
                  go_wp2_with fail
                  refine HC.out.mono ?_
                  rintro e w6 ⟨⟨v, rfl⟩, l4, hr2, hsg⟩
                  have HR2 := Lib.hid hr2
                  have HP2 : Hid (l4.Perm l) := hsg.perm.trans HP.out
                  have HQ := Lib.hid (HF.out l4 w6 hr2 HP2.out hsg.sorted (fun i hi => hsg.same i (.inl hi)))
                  clear hr2 hsg HC HF HS HT
                  go_wp2_with fail
                  go_roundw
                  case rel => exact ⟨80, l4, rfl, by show _ ∨ _; omega, HR2.out, HP2.out, HQ.out⟩
                  case measure => simp [intOf]
                · have hmi : ¬ ((a : Int) + 40 < (n : Int)) := by omega
                  have HQ := Lib.hid (HF.out l' wr HROW.out HP.out ((HT.out a (by have := HA.out; omega) (Nat.le_refl _)).mono (Nat.le_refl _) (by omega)) (fun i _ => rfl))
                  clear HF HS HT
                  go_wp2_with fail
                  go_roundw
                  case rel => exact ⟨80, l', rfl, by show _ ∨ _; omega, HROW.out, HP.out, HQ.out⟩
                  case measure => simp [intOf]
        · have hsni : ¬ ((s : Int) < (n : Int)) := by omega
          have HSO : Hid (SortedJ l3) := SortedOn.all (by have := HB.out 0 (by simp); rwa [Nat.zero_add] at this) (by have := HL.out _ _ HROW.out; omega)
          clear HS HB
          go_wp2_with fail
          go_end0
          exact ⟨⟨_, rfl⟩, l3, HROW.out, HP.out, HSO.out⟩
theorem insert_none (c : Nat) (w : World) : Calls Tryz.prog 109 #[.slice none 0 c, .int .i64 0, .int .i64 0, .func (.func 51) #[] #[]] w fun e w' => (∃ v, e = .returned v) ∧ w = w' := by
  go_enter Tryz.func109, Tryz.ntmps109
  go_wp2_with fail
  go_loop [8] (fun iv => iv = .int .i64 1) (fun _ => 0)
  case atStart => rfl
  case round =>
    subst hrel
    go_wp2_with fail
    go_end0
    exact ⟨⟨_, rfl⟩, rfl⟩
theorem stable_none (c : Nat) (w : World) : Calls Tryz.prog 81 #[.slice none 0 c, .int .i64 0, .func (.func 51) #[] #[]] w fun e w' => (∃ v, e = .returned v) ∧ w = w' := by
  go_enter Tryz.func81, Tryz.ntmps81
  go_wp2_with fail
  go_loop [7, 8] (fun av bv => av = .int .i64 0 ∧ bv = .int .i64 20) (fun _ _ => 0)
  case atStart => exact ⟨rfl, rfl⟩
  case round =>
    obtain ⟨rfl, rfl⟩ := hrel
    go_wp2_with fail
    refine (insert_none c w).mono ?_
    rintro e w5 ⟨⟨v, rfl⟩, rfl⟩
    go_wp2_with fail
    go_loop [6] (fun sv => sv = .int .i64 20) (fun _ => 0)
    case atStart => rfl
    case round =>
      subst hrel
      go_wp2_with fail
      go_end0
      exact ⟨⟨_, rfl⟩, rfl⟩
theorem sortStable_any (B g n cap : Nat) (l : List JobD) (W0 w : World) (h : JRow B g n cap W0 w l) (hn : n ≤ 64) :
    Calls Tryz.prog 50 #[.slice (some ⟨g, 0, none⟩) n cap, .func (.func 51) #[] #[]] w fun e w' => (∃ v, e = .returned v) ∧ ∃ l', JRow B g n cap W0 w' l' ∧ l'.Perm l ∧ SortedJ l' := by
  have HC := Lib.hid (stable_any B g n cap l W0 w h hn)
  clear h
  go_enter Tryz.func50, Tryz.ntmps50
  go_wp2_with fail
  refine HC.out.mono ?_
  rintro e w5 ⟨⟨v, rfl⟩, l2, h1, h2, h3⟩
  have H1 := Lib.hid h1
  have H2 := Lib.hid h2
  have H3 := Lib.hid h3
  clear h1 h2 h3
  go_wp2_with fail
  go_end0
  exact ⟨⟨_, rfl⟩, l2, H1.out, H2.out, H3.out⟩
theorem sortStable_none (c : Nat) (w : World) : Calls Tryz.prog 50 #[.slice none 0 c, .func (.func 51) #[] #[]] w fun e w' => (∃ v, e = .returned v) ∧ w = w' := by
  go_enter Tryz.func50, Tryz.ntmps50
  go_wp2_with fail
  refine (stable_none c w).mono ?_
  rintro e w5 ⟨⟨v, rfl⟩, rfl⟩
  go_wp2_with fail
  go_end0
  exact ⟨⟨_, rfl⟩, rfl⟩
theorem sorted_any (v : Value) (l : List JobD) (S : Nat → Prop) (w : World) (hv : RdK 3 jobC w S v l) (hl : l.length ≤ 64) :
    Calls Tryz.prog 28 #[v] w fun e w' => (∃ v' s, e = .returned v' ∧ w'.ownsRow w.heap.size 79 3 v' l.length (s.flatMap jobC) ∧ s.Perm l ∧ SortedJ s) ∧ Below w.heap.size w w' := by
  have HC := Lib.hid (cloneJ_own v l S w hv (by omega))
  obtain ⟨A, n, cap, rfl, hn, _⟩ := hv.open_
  clear hv
  rw [hn] at HC hl ⊢
  have HN := Lib.hid hn
  clear hn
  go_enter Tryz.func28, Tryz.ntmps28
  go_wp2_with fail
  refine HC.out.mono ?_
  rintro e w2 ⟨⟨v', rfl, hown⟩, hb⟩
  have HOWN := Lib.hid hown
  have HB := Lib.hid hb
  rcases hown.2 with ⟨rfl, hz⟩ | ⟨g, cp, cur, rfl, _⟩
  · have HZ : Hid (l = []) := List.length_eq_zero_iff.1 (by rw [HN.out]; exact hz)
    clear hown hb hz
    go_wp2_with fail
    refine (sortStable_none 0 w2).mono ?_
    rintro e w5 ⟨⟨v, rfl⟩, rfl⟩
    go_wp2_with fail
    go_ret
    exact ⟨⟨_, [], rfl, by have := HOWN.out; rw [HZ.out] at this; exact this, by rw [HZ.out], List.Pairwise.nil⟩, HB.out⟩
  · have HR : Hid (JRow w.heap.size g n cp w w2 l) := ⟨hown, HN.out, hb⟩
    have HC2 := Lib.hid (sortStable_any w.heap.size g n cp l w w2 HR.out hl)
    clear hown hb
    go_wp2_with fail
    refine HC2.out.mono ?_
    rintro e w5 ⟨⟨v, rfl⟩, l2, h1, h2, h3⟩
    have H1 := Lib.hid h1
    have H2 := Lib.hid h2
    have H3 := Lib.hid h3
    clear h1 h2 h3
    go_wp2_with fail
    go_ret
    exact ⟨⟨_, l2, rfl, H1.out.own, H2.out, H3.out⟩, H1.out.bel⟩
end Go.Proofs.YtogccnngdfancaaGreat
