/- Plain mathematics of barcodes: values of symbols and weighed sums. -/
import Derived.Lib.Bytealg
namespace Go.Proofs.Ytogccnngdfancaa.Pl

def symbols : List UInt8 := [48, 49, 50, 51, 52, 53, 54, 55, 56, 57, 65, 66, 67, 68, 69, 70, 71, 72, 73, 74, 75, 76, 77, 78, 79, 80, 81, 82, 83, 84, 85, 86, 87, 88, 89, 90, 45]
/-- The value of a symbol; -1 if it is none. -/
def val (c : UInt8) : Int := Lib.indexByte symbols c
def wsum : Nat → List Int → Int
  | _, [] => 0
  | i, x :: l => ((i : Int) + 1) * max x 0 + wsum (i+1) l
theorem wsum_snoc (l : List Int) (x : Int) : ∀ i, wsum i (l ++ [x]) = wsum i l + ((i : Int) + l.length + 1) * max x 0 := by
  induction l with
  | nil => intro i; simp [wsum]
  | cons y l ih =>
    intro i
    simp only [List.cons_append, wsum, ih (i+1), List.length_cons]
    push_cast
    rw [show ((i:Int) + 1 + l.length + 1) = i + (l.length + 1) + 1 from by omega]
    omega
theorem val_bd (c : UInt8) : -1 ≤ val c ∧ val c ≤ 36 := by
  have h : ∀ n : Fin 256, -1 ≤ val (UInt8.ofNat n.val) ∧ val (UInt8.ofNat n.val) ≤ 36 := by decide +kernel
  have := h ⟨c.toNat, c.toNat_lt⟩
  simpa using this
theorem wsum_bd (l : List Int) (h : ∀ x ∈ l, -1 ≤ x ∧ x ≤ 36) : ∀ i, 0 ≤ wsum i l ∧ wsum i l ≤ 36 * ((i + l.length) * l.length) := by
  induction l with
  | nil => intro i; simp [wsum]
  | cons y l ih =>
    intro i
    obtain ⟨a, b⟩ := ih (fun x hx => h x (List.mem_cons_of_mem _ hx)) (i + 1)
    obtain ⟨h1, h2⟩ := h y (List.mem_cons_self ..)
    have hm : 0 ≤ max y 0 ∧ max y 0 ≤ 36 := by omega
    have p1 : 0 ≤ ((i : Int) + 1) * max y 0 := Int.mul_nonneg (by omega) hm.1
    have p2 : ((i : Int) + 1) * max y 0 ≤ ((i : Int) + 1) * 36 := Int.mul_le_mul_of_nonneg_left hm.2 (by omega)
    simp only [wsum, List.length_cons]
    push_cast at a b ⊢
    refine ⟨by omega, ?_⟩
    have e : ((i : Int) + (l.length + 1)) * (l.length + 1) = ((i : Int) + 1 + l.length) * l.length + (i + 1 + l.length) := by
      rw [show ((i : Int) + (l.length + 1)) = i + 1 + l.length from by omega, Int.mul_add, Int.mul_one]
    rw [e]
    omega
end Go.Proofs.Ytogccnngdfancaa.Pl
namespace Go.Proofs.Ytogccnngdfancaa.Pl
/-- All bytes are symbols. -/
def isCode (l : List UInt8) : Prop := ∀ c ∈ l, 0 ≤ val c
/-- The weighed sum modulo 37. -/
def ck (l : List UInt8) : Int := wsum 0 (l.map val) % 37
def below0 (xs : List Int) : Nat := (xs.filter (· < 0)).length
theorem below0_code (l : List UInt8) : below0 (l.map val) = 0 ↔ isCode l := by
  unfold below0 isCode
  rw [List.length_eq_zero_iff, List.filter_eq_nil_iff]
  simp
theorem vals_bd (l : List UInt8) : ∀ x ∈ l.map val, -1 ≤ x ∧ x ≤ 36 := fun x hx => by obtain ⟨c, _, rfl⟩ := List.mem_map.1 hx; exact val_bd c
theorem wsum_app (l m : List Int) : ∀ i, wsum i (l ++ m) = wsum i l + wsum (i + l.length) m := by
  induction l with
  | nil => intro i; simp [wsum]
  | cons y l ih => intro i; simp only [List.cons_append, wsum, ih (i+1), List.length_cons]; rw [show i + 1 + l.length = i + (l.length + 1) from by omega]; omega
theorem prime37 (a d : Int) (h1 : 1 ≤ a) (h2 : a ≤ 36) (h3 : -36 ≤ d) (h4 : d ≤ 36) (h : (a * d) % 37 = 0) : d = 0 := by
  have key : ∀ a b : Fin 37, 1 ≤ a.val → ((a.val : Int) * b.val) % 37 = 0 → b.val = 0 := by decide +kernel
  have k := key ⟨a.toNat, by omega⟩ ⟨(d % 37).toNat, by omega⟩ (by simp; omega)
  simp only at k
  rw [Int.toNat_of_nonneg (by omega), Int.toNat_of_nonneg (by omega)] at k
  have e : (a * (d % 37)) % 37 = 0 := by rw [Int.mul_emod, Int.emod_emod_of_dvd d (Int.dvd_refl 37), ← Int.mul_emod]; exact h
  have := k e
  omega
theorem val_inj {c d : UInt8} (hc : 0 ≤ val c) (h : val c = val d) : c = d := by
  have key : ∀ a b : Fin 256, 0 ≤ val (UInt8.ofNat a.val) → val (UInt8.ofNat a.val) = val (UInt8.ofNat b.val) → a.val = b.val := by decide +kernel
  have := key ⟨c.toNat, c.toNat_lt⟩ ⟨d.toNat, d.toNat_lt⟩ (by simpa using hc) (by simpa using h)
  exact UInt8.toNat_inj.1 this
theorem sym_at : ∀ x : Nat, x < 37 → val (symbols.getD x 0) = x := by decide +kernel
/-- One symbol in the midst: the sum tells it. -/
theorem mid_unique {a b : List UInt8} {c d : UInt8} (hn : a.length < 36) (hc : 0 ≤ val c) (hd : 0 ≤ val d) (h1 : ck (a ++ [c] ++ b) = 0) (h2 : ck (a ++ [d] ++ b) = 0) : c = d := by
  refine val_inj hc ?_
  have bc := val_bd c
  have bd := val_bd d
  unfold ck at h1 h2
  simp only [List.map_append, List.map_cons, List.map_nil, wsum_app, wsum, List.length_append, List.length_cons, List.length_nil, List.length_map] at h1 h2
  rw [Int.max_eq_left hc] at h1
  rw [Int.max_eq_left hd] at h2
  have e : ((a.length : Int) + 1) * (val c - val d) = (a.length + 1) * val c - (a.length + 1) * val d := Int.mul_sub ..
  push_cast at h1 h2
  simp only [Int.zero_add] at h1 h2
  have := prime37 (a.length + 1) (val c - val d) (by omega) (by omega) (by omega) (by omega) (by rw [e]; omega)
  omega
def SealOut (l r : List UInt8) (e : Int) : Prop :=
  (e = 4 ∧ r = [] ∧ (l.length = 0 ∨ 23 < l.length)) ∨ (1 ≤ l.length ∧ l.length ≤ 23 ∧ ((e = 2 ∧ r = [] ∧ ¬ isCode l) ∨ (e = 0 ∧ isCode l ∧ ∃ c, r = l ++ [c] ∧ 0 ≤ val c ∧ ck r = 0)))
def OpenOut (l r : List UInt8) (e : Int) : Prop :=
  (e = 4 ∧ r = [] ∧ (l.length < 2 ∨ 24 < l.length)) ∨ (2 ≤ l.length ∧ l.length ≤ 24 ∧ ((e = 2 ∧ r = [] ∧ ¬ isCode l) ∨ (e = 90 ∧ r = [] ∧ isCode l ∧ ck l ≠ 0) ∨ (e = 0 ∧ isCode l ∧ ck l = 0 ∧ r = l.take (l.length - 1))))
/-- One byte is a question mark, all others are symbols. -/
def Holed (a b l : List UInt8) : Prop := l = a ++ [63] ++ b ∧ isCode a ∧ isCode b
def MendOut (l r : List UInt8) (e : Int) : Prop :=
  (e = 4 ∧ r = [] ∧ (l.length < 2 ∨ 24 < l.length)) ∨ (2 ≤ l.length ∧ l.length ≤ 24 ∧ ((e = 2 ∧ r = [] ∧ ¬ ∃ a b, Holed a b l) ∨ (e = 0 ∧ ∃ a b c, Holed a b l ∧ r = a ++ [c] ++ b ∧ 0 ≤ val c ∧ ck r = 0)))
theorem SealOut.same {l r r' : List UInt8} {e e' : Int} (h : SealOut l r e) (h' : SealOut l r' e') : r = r' ∧ e = e' := by
  rcases h with ⟨rfl, rfl, h1⟩ | ⟨h1, h2, ⟨rfl, rfl, h3⟩ | ⟨rfl, h3, c, rfl, hc, hk⟩⟩ <;> rcases h' with ⟨rfl, rfl, h1'⟩ | ⟨h1', h2', ⟨rfl, rfl, h3'⟩ | ⟨rfl, h3', c', rfl, hc', hk'⟩⟩ <;> first | exact ⟨rfl, rfl⟩ | omega | exact absurd h3' h3 | exact absurd h3 h3' | skip
  have := mid_unique (a := l) (b := []) (by omega) hc hc' (by simpa using hk) (by simpa using hk')
  rw [this]; exact ⟨rfl, rfl⟩
theorem OpenOut.same {l r r' : List UInt8} {e e' : Int} (h : OpenOut l r e) (h' : OpenOut l r' e') : r = r' ∧ e = e' := by
  rcases h with ⟨rfl, rfl, h1⟩ | ⟨h1, h2, ⟨rfl, rfl, h3⟩ | ⟨rfl, rfl, h3, h4⟩ | ⟨rfl, h3, h4, rfl⟩⟩ <;> rcases h' with ⟨rfl, rfl, h1'⟩ | ⟨h1', h2', ⟨rfl, rfl, h3'⟩ | ⟨rfl, rfl, h3', h4'⟩ | ⟨rfl, h3', h4', rfl⟩⟩ <;> first | exact ⟨rfl, rfl⟩ | omega | exact absurd h3' h3 | exact absurd h3 h3' | exact absurd h4 h4' | exact absurd h4' h4 | skip
theorem val63 : val 63 = -1 := by decide +kernel
theorem Holed.same {a b a' b' l : List UInt8} (h : Holed a b l) (h' : Holed a' b' l) : a = a' ∧ b = b' := by
  obtain ⟨e, ha, hb⟩ := h
  obtain ⟨e', ha', hb'⟩ := h'
  have no : ∀ {m : List UInt8}, isCode m → (63 : UInt8) ∉ m := fun hm hx => by have := hm _ hx; rw [val63] at this; omega
  have l1 : ∀ {m n : List UInt8}, isCode m → (m ++ [63] ++ n).idxOf 63 = m.length := fun {m n} hm => by
    rw [List.append_assoc, List.idxOf_append, if_neg (no hm)]; simp
  have hl : a.length = a'.length := by rw [← l1 (n := b) ha, ← l1 (n := b') ha', ← e, ← e']
  rw [e] at e'
  rw [List.append_assoc, List.append_assoc] at e'
  obtain ⟨h1, h2⟩ := List.append_inj e' hl
  exact ⟨h1, by simpa using h2⟩
theorem MendOut.same {l r r' : List UInt8} {e e' : Int} (h : MendOut l r e) (h' : MendOut l r' e') : r = r' ∧ e = e' := by
  rcases h with ⟨rfl, rfl, h1⟩ | ⟨h1, h2, ⟨rfl, rfl, h3⟩ | ⟨rfl, a, b, c, h3, rfl, hc, hk⟩⟩ <;> rcases h' with ⟨rfl, rfl, h1'⟩ | ⟨h1', h2', ⟨rfl, rfl, h3'⟩ | ⟨rfl, a', b', c', h3', rfl, hc', hk'⟩⟩ <;> first | exact ⟨rfl, rfl⟩ | omega | exact absurd ⟨_, _, h3'⟩ h3 | exact absurd ⟨_, _, h3⟩ h3' | skip
  obtain ⟨rfl, rfl⟩ := h3.same h3'
  have hl := congrArg List.length h3.1
  simp at hl
  rw [mid_unique (by omega) hc hc' hk hk']; exact ⟨rfl, rfl⟩
end Go.Proofs.Ytogccnngdfancaa.Pl
namespace Go.Proofs.Ytogccnngdfancaa.Pl
theorem idx_spec (c : UInt8) : ∀ l : List UInt8, (Lib.indexByte l c = -1 ∧ c ∉ l) ∨ ∃ a b, l = a ++ [c] ++ b ∧ c ∉ a ∧ Lib.indexByte l c = a.length
  | [] => .inl ⟨rfl, by simp⟩
  | x :: l => by
    by_cases hx : x = c
    · subst hx
      exact .inr ⟨[], l, by simp, by simp, by simp [Lib.indexByte]⟩
    · have hx' : (x == c) = false := by simpa using hx
      rcases idx_spec c l with ⟨h1, h2⟩ | ⟨a, b, rfl, h1, h2⟩
      · exact .inl ⟨by simp [Lib.indexByte, hx', h1], by simp [h2, Ne.symm hx]⟩
      · refine .inr ⟨x :: a, b, by simp, by simp [h1, Ne.symm hx], ?_⟩
        simp only [Lib.indexByte, hx', h2]
        have : ((a.length : Int) == -1) = false := by simp
        simp [this]
theorem below0_app (a b : List Int) : below0 (a ++ b) = below0 a + below0 b := by simp [below0]
theorem holed_of {a b : List UInt8} (h : below0 ((a ++ [63] ++ b).map val) = 1) : Holed a b (a ++ [63] ++ b) := by
  simp only [List.map_append, below0_app, List.map_cons, List.map_nil] at h
  have e : below0 [val 63] = 1 := by rw [val63]; decide
  exact ⟨rfl, (below0_code a).1 (by omega), (below0_code b).1 (by omega)⟩
theorem below0_holed {a b l : List UInt8} (h : Holed a b l) : 63 ∈ l ∧ below0 (l.map val) = 1 := by
  obtain ⟨rfl, ha, hb⟩ := h
  have e : below0 [val 63] = 1 := by rw [val63]; decide
  refine ⟨by simp, ?_⟩
  simp only [List.map_append, below0_app, List.map_cons, List.map_nil, (below0_code a).2 ha, (below0_code b).2 hb, e]
theorem ck_mid {a b : List UInt8} {x : Nat} {c : UInt8} (hc : val c = x) (h : ((a.length + 1 : Int) * x + ck (a ++ [63] ++ b)) % 37 = 0) : ck (a ++ [c] ++ b) = 0 := by
  unfold ck at *
  simp only [List.map_append, List.map_cons, List.map_nil, wsum_app, wsum, List.length_map, hc, val63, List.length_append, List.length_cons, List.length_nil] at h ⊢
  rw [Int.max_eq_left (by omega)]
  rw [Int.max_eq_right (by omega)] at h
  push_cast at h ⊢
  simp only [Int.zero_add, Int.add_zero, Int.mul_zero] at h ⊢
  omega
end Go.Proofs.Ytogccnngdfancaa.Pl
namespace Go.Proofs.Ytogccnngdfancaa.Pl
theorem idx_none (c : UInt8) (l : List UInt8) (h : ∀ j, j < l.length → l.getD j 0 ≠ c) : Lib.indexByte l c = -1 := by
  rcases idx_spec c l with ⟨h1, _⟩ | ⟨a, b, rfl, _, _⟩
  · exact h1
  · refine absurd ?_ (h a.length (by simp))
    simp [List.getD]
theorem idx_first (c : UInt8) (l : List UInt8) (k : Nat) (hk : k < l.length) (h : l.getD k 0 = c) (hn : ∀ j, j < k → l.getD j 0 ≠ c) : Lib.indexByte l c = k := by
  have hg : l.getD k 0 = l[k] := by simp [List.getD, List.getElem?_eq_getElem hk]
  rcases idx_spec c l with ⟨_, h2⟩ | ⟨a, b, hab, h2, h3⟩
  · exact absurd (by rw [← h, hg]; exact List.getElem_mem hk) h2
  · rcases Nat.lt_trichotomy a.length k with hlt | heq | hgt
    · refine absurd ?_ (hn a.length hlt); subst hab; simp [List.getD]
    · rw [h3, heq]
    · subst hab
      refine absurd ?_ h2
      rw [← h]
      simp only [List.getD, List.append_assoc]
      rw [List.getElem?_append_left hgt, List.getElem?_eq_getElem hgt]
      exact List.getElem_mem hgt
end Go.Proofs.Ytogccnngdfancaa.Pl
