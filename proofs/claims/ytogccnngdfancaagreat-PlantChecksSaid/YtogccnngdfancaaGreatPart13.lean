/- Natural numbers as lists of digits. Plain laws of division digit by digit: a quotient that is guessed from the top words. -/
import Derived.RowKit
namespace Go.Proofs.YtogccnngdfancaaGreat
set_option linter.unusedVariables false
/-- What digits say, the least one first. -/
def val (b : Nat) : List Nat → Nat
  | [] => 0
  | x :: xs => x + b * val b xs
theorem val_append (b : Nat) : ∀ (xs ys : List Nat), val b (xs ++ ys) = val b xs + b ^ xs.length * val b ys
  | [], ys => by simp [val]
  | x :: xs, ys => by
    rw [List.cons_append, val, val, val_append b xs ys, List.length_cons, Nat.pow_succ, Nat.mul_add, Nat.mul_comm (b ^ xs.length) b, Nat.mul_assoc, Nat.add_assoc]
theorem val_one (b x : Nat) : val b [x] = x := by simp [val]
theorem val_take (b : Nat) {xs : List Nat} {i x : Nat} (h : xs[i]? = some x) : val b (xs.take (i + 1)) = val b (xs.take i) + x * b ^ i := by
  obtain ⟨hi, rfl⟩ := List.getElem?_eq_some_iff.1 h
  rw [List.take_add_one, h, val_append]
  have : (xs.take i).length = i := by simp; omega
  rw [this]
  simp [val, Nat.mul_comm]
theorem val_drop (b : Nat) {xs : List Nat} {i x : Nat} (h : xs[i]? = some x) : val b (xs.drop i) = x + b * val b (xs.drop (i + 1)) := by
  obtain ⟨hi, rfl⟩ := List.getElem?_eq_some_iff.1 h
  rw [List.drop_eq_getElem_cons hi]; rfl
theorem val_split (b : Nat) (xs : List Nat) (i : Nat) (hi : i ≤ xs.length) : val b xs = val b (xs.take i) + b ^ i * val b (xs.drop i) := by
  conv => lhs; rw [← List.take_append_drop i xs]
  rw [val_append]
  have : (xs.take i).length = i := by simp; omega
  rw [this]
theorem val_lt {b : Nat} (hb : 1 ≤ b) : ∀ {xs : List Nat}, (∀ x ∈ xs, x < b) → val b xs < b ^ xs.length
  | [], _ => by simp [val]
  | x :: xs, h => by
    have h1 := h x (List.mem_cons_self ..)
    have h2 := val_lt hb (xs := xs) fun y hy => h y (List.mem_cons_of_mem _ hy)
    rw [val, List.length_cons, Nat.pow_succ]
    have : b * (val b xs + 1) ≤ b * b ^ xs.length := Nat.mul_le_mul_left b h2
    rw [Nat.mul_add, Nat.mul_one] at this
    rw [Nat.mul_comm (b ^ xs.length) b]
    omega
/-- The digits of a number. -/
def digs (b n : Nat) : List Nat := if h : n = 0 ∨ b < 2 then [] else (n % b) :: digs b (n / b)
termination_by n
decreasing_by exact Nat.div_lt_self (by omega) (by omega)
theorem digs_zero (b : Nat) : digs b 0 = [] := by rw [digs]; simp
theorem digs_pos {b n : Nat} (hb : 2 ≤ b) (hn : n ≠ 0) : digs b n = (n % b) :: digs b (n / b) := by
  rw [digs, dif_neg (by omega)]
theorem val_digs {b : Nat} (hb : 2 ≤ b) (n : Nat) : val b (digs b n) = n := by
  induction n using Nat.strongRecOn with
  | _ n ih =>
    by_cases h : n = 0
    · subst h; rw [digs_zero]; rfl
    · rw [digs_pos hb h, val, ih _ (Nat.div_lt_self (by omega) (by omega))]
      exact Nat.mod_add_div n b
theorem digs_lt {b : Nat} (hb : 2 ≤ b) (n : Nat) : ∀ x ∈ digs b n, x < b := by
  induction n using Nat.strongRecOn with
  | _ n ih =>
    by_cases h : n = 0
    · subst h; rw [digs_zero]; intro x hx; cases hx
    · rw [digs_pos hb h]
      intro x hx
      rcases List.mem_cons.1 hx with rfl | hx
      · exact Nat.mod_lt _ (by omega)
      · exact ih _ (Nat.div_lt_self (by omega) (by omega)) x hx
/-- Digits without zeros at the end. -/
structure Norm (b : Nat) (xs : List Nat) : Prop where
  lt : ∀ x ∈ xs, x < b
  last : ∀ x, xs.getLast? = some x → x ≠ 0
theorem digs_norm {b : Nat} (hb : 2 ≤ b) (n : Nat) : Norm b (digs b n) := by
  refine ⟨digs_lt hb n, ?_⟩
  induction n using Nat.strongRecOn with
  | _ n ih =>
    by_cases h : n = 0
    · subst h; rw [digs_zero]; intro x hx; cases hx
    · rw [digs_pos hb h]
      intro x hx
      by_cases hd : n / b = 0
      · rw [hd, digs_zero] at hx
        simp at hx
        have : n < b := by
          rcases Nat.lt_or_ge n b with h1 | h1
          · exact h1
          · have := Nat.div_pos (a := n) (b := b) h1 (by omega); omega
        rw [Nat.mod_eq_of_lt this] at hx
        omega
      · refine ih (n / b) (Nat.div_lt_self (by omega) (by omega)) x ?_
        rw [List.getLast?_cons] at hx
        have hne : digs b (n / b) ≠ [] := by rw [digs_pos hb hd]; simp
        rw [List.getLast?_eq_some_getLast hne]
        rw [List.getLast?_eq_some_getLast hne] at hx
        simpa using hx
theorem Norm.tail {b x : Nat} {xs : List Nat} (h : Norm b (x :: xs)) : Norm b xs := by
  refine ⟨fun y hy => h.lt y (List.mem_cons_of_mem _ hy), fun y hy => ?_⟩
  cases xs with
  | nil => cases hy
  | cons z zs => exact h.last y (by rw [List.getLast?_cons_cons]; exact hy)
theorem norm_val_pos {b : Nat} (hb : 2 ≤ b) : ∀ {xs : List Nat}, Norm b xs → xs ≠ [] → val b xs ≠ 0
  | [], _, h => absurd rfl h
  | [x], hn, _ => by rw [val_one]; exact hn.last x rfl
  | x :: y :: xs, hn, _ => by
    have := norm_val_pos hb hn.tail (by simp)
    rw [val]
    have h2 : 1 ≤ val b (y :: xs) := by omega
    have : b * 1 ≤ b * val b (y :: xs) := Nat.mul_le_mul_left b h2
    omega
/-- They are the only ones. -/
theorem norm_digs {b : Nat} (hb : 2 ≤ b) : ∀ {xs : List Nat}, Norm b xs → xs = digs b (val b xs)
  | [], _ => by rw [val, digs_zero]
  | x :: xs, hn => by
    have hx := hn.lt x (List.mem_cons_self ..)
    rw [digs_pos hb (norm_val_pos hb hn (by simp)), val, Nat.add_mul_mod_self_left, Nat.mod_eq_of_lt hx, Nat.add_mul_div_left _ _ (show 0 < b by omega), Nat.div_eq_of_lt hx, Nat.zero_add, ← norm_digs hb hn.tail]
theorem digs_inj {b m n : Nat} (hb : 2 ≤ b) (h : digs b m = digs b n) : m = n := by rw [← val_digs hb m, h, val_digs hb]
theorem digs_nil {b n : Nat} (hb : 2 ≤ b) : digs b n = [] ↔ n = 0 := by
  constructor
  · intro h; rw [← val_digs hb n, h]; rfl
  · rintro rfl; exact digs_zero b
/-- How many digits. -/
theorem len_le_iff {b : Nat} (hb : 2 ≤ b) (n k : Nat) : (digs b n).length ≤ k ↔ n < b ^ k := by
  have hbp : ∀ k, 0 < b ^ k := fun k => Nat.pow_pos (by omega)
  constructor
  · intro h
    have h1 := val_lt (b := b) (by omega) (digs_lt hb n)
    rw [val_digs hb] at h1
    exact Nat.lt_of_lt_of_le h1 (Nat.pow_le_pow_right (by omega) h)
  · induction k generalizing n with
    | zero => intro h; simp at h; subst h; rw [digs_zero]; simp
    | succ k ih =>
      intro h
      by_cases hn : n = 0
      · subst hn; rw [digs_zero]; simp
      · rw [digs_pos hb hn, List.length_cons]
        have : n / b < b ^ k := by rw [Nat.div_lt_iff_lt_mul (by omega), ← Nat.pow_succ]; exact h
        have := ih _ this
        omega
theorem lt_len {b : Nat} (hb : 2 ≤ b) (n : Nat) : n < b ^ (digs b n).length := (len_le_iff hb n _).1 (Nat.le_refl _)
theorem len_mono {b m n : Nat} (hb : 2 ≤ b) (h : m ≤ n) : (digs b m).length ≤ (digs b n).length := (len_le_iff hb m _).2 (Nat.lt_of_le_of_lt h (lt_len hb n))
theorem len_add {b m n : Nat} (hb : 2 ≤ b) : (digs b (m + n)).length ≤ max (digs b m).length (digs b n).length + 1 := by
  rw [len_le_iff hb]
  have h1 : m < b ^ max (digs b m).length (digs b n).length := (len_le_iff hb m _).1 (by omega)
  have h2 : n < b ^ max (digs b m).length (digs b n).length := (len_le_iff hb n _).1 (by omega)
  rw [Nat.pow_succ]
  have : b ^ max (digs b m).length (digs b n).length * 2 ≤ b ^ max (digs b m).length (digs b n).length * b := Nat.mul_le_mul_left _ hb
  omega
theorem len_mul {b m n : Nat} (hb : 2 ≤ b) : (digs b (m * n)).length ≤ (digs b m).length + (digs b n).length := by
  rw [len_le_iff hb, Nat.pow_add]
  exact Nat.mul_lt_mul'' (lt_len hb m) (lt_len hb n)
/-! Zeros off the end. -/
def cutN : List Nat → Nat → Nat
  | _, 0 => 0
  | xs, k + 1 => if xs.getD k 0 = 0 then cutN xs k else k + 1
theorem cutN_digs {b : Nat} (hb : 2 ≤ b) {xs : List Nat} (h : ∀ x ∈ xs, x < b) : ∀ k, k ≤ xs.length → xs.take (cutN xs k) = digs b (val b (xs.take k))
  | 0, _ => by simp [cutN, val, digs_zero]
  | k + 1, hk => by
    have hx : xs[k]? = some (xs[k]'(by omega)) := List.getElem?_eq_getElem _
    have hg : xs.getD k 0 = xs[k]'(by omega) := by rw [List.getD_eq_getElem?_getD, hx]; rfl
    simp only [cutN]
    split
    · rename_i h0
      rw [cutN_digs hb h k (by omega), val_take b hx, ← hg, h0]; simp
    · rename_i h0
      refine norm_digs hb ⟨fun x hx => h x (List.mem_of_mem_take hx), fun x hx' => ?_⟩
      have e : xs.take (k + 1) = xs.take k ++ [xs[k]'(by omega)] := by rw [List.take_add_one, hx]; rfl
      rw [e, List.getLast?_concat] at hx'
      rw [← Option.some.inj hx', ← hg]; exact h0
theorem digs_small {b n : Nat} (hb : 2 ≤ b) (h0 : n ≠ 0) (h : n < b) : digs b n = [n] := by
  rw [digs_pos hb h0, Nat.mod_eq_of_lt h, Nat.div_eq_of_lt h, digs_zero]
/-! Which is the greater one. -/
theorem len_lt_val {b m n : Nat} (hb : 2 ≤ b) (h : (digs b m).length < (digs b n).length) : m < n := by
  rcases Nat.lt_or_ge m n with h1 | h1
  · exact h1
  · have := len_mono hb h1; omega
theorem val_le_of {b : Nat} (hb : 2 ≤ b) {xs ys : List Nat} {i x y : Nat} (hl : xs.length = ys.length) (hx : xs[i]? = some x) (hy : ys[i]? = some y) (hlx : ∀ z ∈ xs, z < b) (hs : xs.drop (i + 1) = ys.drop (i + 1)) (hlt : x < y) : val b xs < val b ys := by
  have hi := (List.getElem?_eq_some_iff.1 hx).1
  have hj := (List.getElem?_eq_some_iff.1 hy).1
  rw [val_split b xs i (by omega), val_split b ys i (by omega), val_drop b hx, val_drop b hy, hs]
  have h1 : val b (xs.take i) < b ^ i := by
    have := val_lt (b := b) (by omega) (xs := xs.take i) fun z hz => hlx z (List.mem_of_mem_take hz)
    rwa [List.length_take, Nat.min_eq_left (by omega)] at this
  have h2 : b ^ i * (x + 1 + b * val b (ys.drop (i + 1))) ≤ b ^ i * (y + b * val b (ys.drop (i + 1))) := Nat.mul_le_mul_left _ (by omega)
  have h3 : b ^ i * (x + 1 + b * val b (ys.drop (i + 1))) = b ^ i * (x + b * val b (ys.drop (i + 1))) + b ^ i := by
    rw [show x + 1 + b * val b (ys.drop (i + 1)) = x + b * val b (ys.drop (i + 1)) + 1 by omega, Nat.mul_add, Nat.mul_one]
  omega
end Go.Proofs.YtogccnngdfancaaGreat
namespace Go.Proofs.YtogccnngdfancaaGreat
set_option linter.unusedVariables false
theorem est_hi {U V T W E lo lv : Nat} (hU : U = T * E + lo) (hlo : lo < E) (hV : V = W * E + lv) (hW : 0 < W) : U / V ≤ T / W := by
  have hE : 0 < E := by omega
  rw [Nat.le_div_iff_mul_le hW]
  have h1 : U / V * V ≤ U := Nat.div_mul_le_self U V
  have h2 : U / V * W * E ≤ U / V * V := by rw [Nat.mul_assoc]; exact Nat.mul_le_mul_left _ (by omega)
  have h3 : U / V * W * E < (T + 1) * E := by rw [Nat.add_mul, Nat.one_mul]; omega
  have := Nat.lt_of_mul_lt_mul_right h3
  omega
theorem est_less {U V T W E lo lv g : Nat} (hU : U = T * E + lo) (hlo : lo < E) (hV : V = W * E + lv) (hV0 : 0 < V) (h : T < g * W) : U / V < g := by
  rw [Nat.div_lt_iff_lt_mul hV0]
  have h1 : g * W * E ≤ g * V := by rw [Nat.mul_assoc]; exact Nat.mul_le_mul_left _ (by omega)
  have h2 : (T + 1) * E ≤ g * W * E := Nat.mul_le_mul_right _ h
  rw [Nat.add_mul, Nat.one_mul] at h2
  omega
/-! One half digit of the library's division of two words by one. -/
structure Half (K y y1 y0 N u : Nat) : Prop where
  hy : y = y1 * K + y0
  y0K : y0 < K
  top : K ≤ 2 * y1
  y1K : y1 < K
  hN : N < y
  hu : u < K
def halfQ (K y N u : Nat) : Nat := (N * K + u) / y
theorem Half.y1pos {K y y1 y0 N u : Nat} (h : Half K y y1 y0 N u) : 0 < y1 := by have := h.y0K; have := h.top; omega
theorem Half.ypos {K y y1 y0 N u : Nat} (h : Half K y y1 y0 N u) : 0 < y := by have := h.hN; omega
theorem Half.ltK {K y y1 y0 N u : Nat} (h : Half K y y1 y0 N u) : halfQ K y N u < K := by
  unfold halfQ
  rw [Nat.div_lt_iff_lt_mul h.ypos]
  have h1 : (N + 1) * K ≤ y * K := Nat.mul_le_mul_right K h.hN
  rw [Nat.add_mul, Nat.one_mul] at h1
  rw [Nat.mul_comm K y]
  have := h.hu
  omega
theorem Half.start {K y y1 y0 N u : Nat} (h : Half K y y1 y0 N u) : halfQ K y N u ≤ N / y1 := est_hi (E := K) rfl h.hu h.hy h.y1pos
theorem Half.prod {K y y1 y0 N u q r : Nat} (h : Half K y y1 y0 N u) (hN : N = q * y1 + r) : q * y + K * r + u = N * K + u + q * y0 := by
  rw [h.hy, hN, Nat.mul_add, Nat.add_mul, Nat.mul_assoc, Nat.mul_comm K r]; omega
theorem Half.less {K y y1 y0 N u q r : Nat} (h : Half K y y1 y0 N u) (hN : N = q * y1 + r) (hc : K ≤ q ∨ K * r + u < q * y0) : halfQ K y N u < q := by
  rcases hc with hc | hc
  · have := h.ltK; omega
  · unfold halfQ
    rw [Nat.div_lt_iff_lt_mul h.ypos]
    have := h.prod hN
    omega
theorem Half.eq {K y y1 y0 N u q r : Nat} (h : Half K y y1 y0 N u) (hN : N = q * y1 + r) (hq : halfQ K y N u ≤ q) (hc : q * y0 ≤ K * r + u) : q = halfQ K y N u := by
  refine Nat.le_antisymm ?_ hq
  unfold halfQ
  rw [Nat.le_div_iff_mul_le h.ypos]
  have := h.prod hN
  omega
theorem Half.brk {K y y1 y0 N u q r : Nat} (h : Half K y y1 y0 N u) (hN : N = q * y1 + r) (hr : K ≤ r) : q * y0 ≤ K * r + u := by
  have hq : q ≤ K := by
    refine Nat.not_lt.1 fun hlt => ?_
    have h1 : K * y1 ≤ q * y1 := Nat.mul_le_mul_right _ (by omega)
    have h2 := h.hN
    have h3 := h.hy
    have h4 := h.y0K
    rw [Nat.mul_comm y1 K] at h3
    omega
  have h1 : q * y0 ≤ K * y0 := Nat.mul_le_mul_right _ hq
  have h2 : K * y0 ≤ K * r := Nat.mul_le_mul_left _ (by have := h.y0K; omega)
  omega
theorem Half.rest {K y y1 y0 N u : Nat} (h : Half K y y1 y0 N u) : N * K + u - halfQ K y N u * y = (N * K + u) % y ∧ halfQ K y N u * y ≤ N * K + u := by
  have h1 := Nat.div_add_mod (N * K + u) y
  unfold halfQ
  rw [Nat.mul_comm y] at h1
  constructor <;> omega
theorem two_halves {K y hi lo1 lo0 : Nat} (hy : 0 < y) (q1 r1 q0 r0 : Nat) (h1 : q1 = (hi * K + lo1) / y) (h1' : r1 = (hi * K + lo1) % y) (h0 : q0 = (r1 * K + lo0) / y) (h0' : r0 = (r1 * K + lo0) % y) :
    q1 * K + q0 = (hi * (K * K) + (lo1 * K + lo0)) / y ∧ r0 = (hi * (K * K) + (lo1 * K + lo0)) % y := by
  have e1 := Nat.div_add_mod (hi * K + lo1) y
  rw [← h1, ← h1'] at e1
  have e0 := Nat.div_add_mod (r1 * K + lo0) y
  rw [← h0, ← h0'] at e0
  have hr : r0 < y := by rw [h0']; exact Nat.mod_lt _ hy
  have hall : hi * (K * K) + (lo1 * K + lo0) = r0 + y * (q1 * K + q0) := by
    have : hi * (K * K) + lo1 * K = (hi * K + lo1) * K := by rw [Nat.add_mul, Nat.mul_assoc]
    rw [← Nat.add_assoc, this, ← e1, Nat.add_mul, Nat.mul_add, Nat.mul_assoc]
    omega
  rw [hall, Nat.add_mul_div_left _ _ hy, Nat.add_mul_mod_self_left, Nat.div_eq_of_lt hr, Nat.mod_eq_of_lt hr, Nat.zero_add]
  exact ⟨rfl, rfl⟩
/-- With a factor before both. -/
theorem scaled_div {u y s : Nat} (hs : 0 < s) : (u * s) / (y * s) = u / y ∧ (u * s) % (y * s) / s = u % y := by
  refine ⟨Nat.mul_div_mul_right u y hs, ?_⟩
  rw [Nat.mul_mod_mul_right, Nat.mul_div_cancel _ hs]
end Go.Proofs.YtogccnngdfancaaGreat
