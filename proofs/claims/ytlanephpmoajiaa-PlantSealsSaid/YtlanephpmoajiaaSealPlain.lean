/- Plain facts on barcodes: a symbol that is replaced, two that are exchanged, one that is lost. -/
import Derived.Test.YtlanephpmoajiaaCodePlain
namespace Go.Proofs.Ytlanephpmoajiaa.Pl

theorem split_at {l : List UInt8} {i : Nat} (hi : i < l.length) : l = l.take i ++ [l[i]] ++ l.drop (i + 1) := by
  rw [List.append_assoc]
  have := (List.take_append_drop i l).symm
  rw [List.drop_eq_getElem_cons hi] at this
  exact this
theorem set_at {l : List UInt8} {i : Nat} (hi : i < l.length) (c : UInt8) : l.set i c = l.take i ++ [c] ++ l.drop (i + 1) := by
  rw [List.set_eq_take_append_cons_drop, if_pos hi]; simp
/-- Open of a barcode with one symbol replaced. -/
theorem open_replaced {l r : List UInt8} {e : Int} {i : Nat} {c : UInt8} (hi : i < l.length) (h1 : 2 ≤ l.length) (h2 : l.length ≤ 24) (hc : isCode l) (hk : ck l = 0) (ho : OpenOut (l.set i c) r e) :
    (c ≠ l[i] → e = 90 ∨ e = 2) ∧ (c = l[i] → e = 0) := by
  have hl : (l.set i c).length = l.length := List.length_set ..
  constructor
  · intro hne
    rcases ho with ⟨rfl, rfl, h⟩ | ⟨_, _, ⟨rfl, _, _⟩ | ⟨rfl, _, _, _⟩ | ⟨rfl, h3, h4, _⟩⟩
    · omega
    · exact .inr rfl
    · exact .inl rfl
    · exfalso
      have e1 := split_at hi
      rw [set_at hi] at h3 h4
      rw [e1] at hk
      have hci : 0 ≤ val l[i] := hc _ (List.getElem_mem hi)
      have hcc : 0 ≤ val c := h3 c (by simp)
      exact hne (mid_unique (by rw [List.length_take]; omega) hcc hci h4 hk)
  · intro he
    have : l.set i c = l := by rw [he, List.set_getElem_self]
    rw [this] at ho
    rcases ho with ⟨rfl, rfl, h⟩ | ⟨_, _, ⟨rfl, _, h⟩ | ⟨rfl, _, _, h⟩ | ⟨rfl, _, _, _⟩⟩
    · omega
    · exact absurd hc h
    · exact absurd hk h
    · rfl
theorem wsum_set (l : List Int) (i : Nat) (x : Int) (hi : i < l.length) : ∀ k, wsum k (l.set i x) = wsum k l + ((k : Int) + i + 1) * (max x 0 - max l[i] 0) := by
  induction l generalizing i with
  | nil => simp at hi
  | cons y l ih =>
    intro k
    cases i with
    | zero =>
      simp only [List.set_cons_zero, wsum, List.getElem_cons_zero, Int.mul_sub]
      push_cast
      simp only [Int.add_zero]
      omega
    | succ i =>
      have hi' : i < l.length := by simpa using hi
      simp only [List.set_cons_succ, wsum, List.getElem_cons_succ, ih i hi' (k + 1)]
      push_cast
      rw [show ((k : Int) + 1 + i + 1) = k + (i + 1) + 1 from by omega]
      omega
theorem swap_ck {l : List UInt8} {i k : Nat} (hi : i < l.length) (hk : k < l.length) (hc : isCode l) (hz : ck l = 0) (h2 : l.length ≤ 24) :
    isCode ((l.set i l[k]).set k l[i]) ∧ (ck ((l.set i l[k]).set k l[i]) = 0 ↔ l[i] = l[k]) := by
  have hvi : 0 ≤ val l[i] := hc _ (List.getElem_mem hi)
  have hvk : 0 ≤ val l[k] := hc _ (List.getElem_mem hk)
  refine ⟨fun c h => ?_, ?_⟩
  · rcases List.mem_or_eq_of_mem_set h with h | rfl
    · rcases List.mem_or_eq_of_mem_set h with h | rfl
      · exact hc c h
      · exact hvk
    · exact hvi
  · by_cases hik : i = k
    · subst hik
      rw [List.set_set, List.set_getElem_self]
      exact ⟨fun _ => rfl, fun _ => hz⟩
    · have e1 : ck ((l.set i l[k]).set k l[i]) = (wsum 0 (l.map val) + ((i : Int) + 1) * (val l[k] - val l[i]) + ((k : Int) + 1) * (val l[i] - val l[k])) % 37 := by
        unfold ck
        rw [List.map_set, List.map_set, wsum_set _ _ _ (by simpa using hk), wsum_set _ _ _ (by simpa using hi)]
        simp only [List.getElem_map, List.getElem_set_ne hik]
        rw [Int.max_eq_left hvi, Int.max_eq_left hvk]
        simp
      have e2 : ((i : Int) + 1) * (val l[k] - val l[i]) + ((k : Int) + 1) * (val l[i] - val l[k]) = ((k : Int) - i) * (val l[i] - val l[k]) := by
        rw [Int.sub_mul, show val l[k] - val l[i] = -(val l[i] - val l[k]) from by omega, Int.mul_neg, Int.add_mul, Int.add_mul]
        omega
      have hz' : wsum 0 (l.map val) % 37 = 0 := hz
      rw [e1, Int.add_assoc, e2]
      have b1 := val_bd l[i]
      have b2 := val_bd l[k]
      constructor
      · intro h
        have h0 : (((k : Int) - i) * (val l[i] - val l[k])) % 37 = 0 := by omega
        have hd : val l[i] - val l[k] = 0 := by
          rcases Nat.lt_or_ge i k with hlt | hge
          · exact prime37 ((k : Int) - i) _ (by omega) (by omega) (by omega) (by omega) h0
          · have h1 : (((i : Int) - k) * (val l[k] - val l[i])) % 37 = 0 := by
              rw [show ((i : Int) - k) * (val l[k] - val l[i]) = ((k : Int) - i) * (val l[i] - val l[k]) from by rw [show ((i : Int) - k) = -((k : Int) - i) from by omega, show val l[k] - val l[i] = -(val l[i] - val l[k]) from by omega, Int.neg_mul_neg]]
              exact h0
            have := prime37 ((i : Int) - k) (val l[k] - val l[i]) (by omega) (by omega) (by omega) (by omega) h1
            omega
        exact val_inj hvi (by omega)
      · intro h
        rw [h, Int.sub_self, Int.mul_zero]
        omega
theorem open_swapped {l r : List UInt8} {e : Int} {i k : Nat} (hi : i < l.length) (hk : k < l.length) (h1 : 2 ≤ l.length) (h2 : l.length ≤ 24) (hc : isCode l) (hz : ck l = 0) (ho : OpenOut ((l.set i l[k]).set k l[i]) r e) :
    (l[i] = l[k] → e = 0) ∧ (l[i] ≠ l[k] → e = 90) := by
  obtain ⟨c1, c2⟩ := swap_ck hi hk hc hz h2
  have hl : ((l.set i l[k]).set k l[i]).length = l.length := by simp
  rcases ho with ⟨rfl, rfl, h⟩ | ⟨_, _, ⟨rfl, _, h⟩ | ⟨rfl, _, _, h⟩ | ⟨rfl, _, h, _⟩⟩
  · omega
  · exact absurd c1 h
  · exact ⟨fun e => absurd (c2.2 e) h, fun _ => rfl⟩
  · exact ⟨fun _ => rfl, fun hne => absurd (c2.1 h) hne⟩
theorem mend_lost {l r : List UInt8} {e : Int} {i : Nat} (hi : i < l.length) (h1 : 2 ≤ l.length) (h2 : l.length ≤ 24) (hc : isCode l) (hz : ck l = 0) (ho : MendOut (l.set i 63) r e) : r = l ∧ e = 0 := by
  have hh : Holed (l.take i) (l.drop (i + 1)) (l.set i 63) := ⟨set_at hi 63, fun c h => hc c (List.mem_of_mem_take h), fun c h => hc c (List.mem_of_mem_drop h)⟩
  have : MendOut (l.set i 63) l 0 := .inr ⟨by simpa using h1, by simpa using h2, .inr ⟨rfl, _, _, l[i], hh, split_at hi, hc _ (List.getElem_mem hi), hz⟩⟩
  exact ho.same this
theorem open_sealed {l r r2 : List UInt8} {c e : Int} (h : SealOut l r c) (hc : c = 0) (ho : OpenOut r r2 e) : e = 0 ∧ r2 = l ∧ r.length = l.length + 1 ∧ 2 ≤ r.length ∧ r.length ≤ 24 ∧ isCode r ∧ ck r = 0 := by
  rcases h with ⟨rfl, _⟩ | ⟨h1, h2, ⟨rfl, _⟩ | ⟨_, h3, d, rfl, hd, hk⟩⟩
  · cases hc
  · cases hc
  · have hcode : isCode (l ++ [d]) := fun x hx => by
      rcases List.mem_append.1 hx with h | h
      · exact h3 x h
      · simp at h; subst h; exact hd
    have : OpenOut (l ++ [d]) l 0 := .inr ⟨by simp; omega, by simp; omega, .inr (.inr ⟨rfl, hcode, hk, by simp⟩)⟩
    obtain ⟨e1, e2⟩ := ho.same this
    exact ⟨e2, e1, by simp, by simp; omega, by simp; omega, hcode, hk⟩
end Go.Proofs.Ytlanephpmoajiaa.Pl
