/- Plain mathematics of barcodes: values of symbols and weighed sums. The walks of plant's and the reference's functions on barcodes. The walk of awake: the example of the chapter. -/
import Derived.Lib.Bytealg
import Derived.Test.YtogccnngdfancaaGreatPart01
import Derived.Test.YtogccnngdfancaaGreatPart46
import Derived.Test.YtogccnngdfancaaGreatPart47
import Derived.Test.YtogccnngdfancaaGreatPart04
namespace Go.Proofs.YtogccnngdfancaaGreat.Pl

def symbols : List UInt8 := [48, 49, 50, 51, 52, 53, 54, 55, 56, 57, 65, 66, 67, 68, 69, 70, 71, 72, 73, 74, 75, 76, 77, 78, 79, 80, 81, 82, 83, 84, 85, 86, 87, 88, 89, 90, 45]
/-- The value of a symbol; -1 if it is none. -/
def valC (c : UInt8) : Int := Lib.indexByte symbols c
def wsum : Nat → List Int → Int
  | _, [] => 0
  | i, x :: l => ((i : Int) + 1) * max x 0 + wsum (i+1) l
theorem wsum_snoc (l : List Int) (x : Int) : ∀ i, wsum i (l ++ [x]) = wsum i l + ((i : Int) + l.length + 1) * max x 0 := by
  induction l with
  | nil => intro i; simp [wsum]
  | cons y l ih =>
    intro i
    simp only [List.cons_append, wsum, ih (i+1), List.length_cons]
    push_cast
    rw [show ((i:Int) + 1 + l.length + 1) = i + (l.length + 1) + 1 from by omega]
    omega
theorem valC_bd (c : UInt8) : -1 ≤ valC c ∧ valC c ≤ 36 := by
  have h : ∀ n : Fin 256, -1 ≤ valC (UInt8.ofNat n.val) ∧ valC (UInt8.ofNat n.val) ≤ 36 := by decide +kernel
  have := h ⟨c.toNat, c.toNat_lt⟩
  simpa using this
theorem wsum_bd (l : List Int) (h : ∀ x ∈ l, -1 ≤ x ∧ x ≤ 36) : ∀ i, 0 ≤ wsum i l ∧ wsum i l ≤ 36 * ((i + l.length) * l.length) := by
  induction l with
  | nil => intro i; simp [wsum]
  | cons y l ih =>
    intro i
    obtain ⟨a, b⟩ := ih (fun x hx => h x (List.mem_cons_of_mem _ hx)) (i + 1)
    obtain ⟨h1, h2⟩ := h y (List.mem_cons_self ..)
    have hm : 0 ≤ max y 0 ∧ max y 0 ≤ 36 := by omega
    have p1 : 0 ≤ ((i : Int) + 1) * max y 0 := Int.mul_nonneg (by omega) hm.1
    have p2 : ((i : Int) + 1) * max y 0 ≤ ((i : Int) + 1) * 36 := Int.mul_le_mul_of_nonneg_left hm.2 (by omega)
    simp only [wsum, List.length_cons]
    push_cast at a b ⊢
    refine ⟨by omega, ?_⟩
    have e : ((i : Int) + (l.length + 1)) * (l.length + 1) = ((i : Int) + 1 + l.length) * l.length + (i + 1 + l.length) := by
      rw [show ((i : Int) + (l.length + 1)) = i + 1 + l.length from by omega, Int.mul_add, Int.mul_one]
    rw [e]
    omega
end Go.Proofs.YtogccnngdfancaaGreat.Pl
namespace Go.Proofs.YtogccnngdfancaaGreat.Pl
/-- All bytes are symbols. -/
def isCode (l : List UInt8) : Prop := ∀ c ∈ l, 0 ≤ valC c
/-- The weighed sum modulo 37. -/
def ck (l : List UInt8) : Int := wsum 0 (l.map valC) % 37
def below0 (xs : List Int) : Nat := (xs.filter (· < 0)).length
theorem below0_code (l : List UInt8) : below0 (l.map valC) = 0 ↔ isCode l := by
  unfold below0 isCode
  rw [List.length_eq_zero_iff, List.filter_eq_nil_iff]
  simp
theorem vals_bd (l : List UInt8) : ∀ x ∈ l.map valC, -1 ≤ x ∧ x ≤ 36 := fun x hx => by obtain ⟨c, _, rfl⟩ := List.mem_map.1 hx; exact valC_bd c
theorem wsum_app (l m : List Int) : ∀ i, wsum i (l ++ m) = wsum i l + wsum (i + l.length) m := by
  induction l with
  | nil => intro i; simp [wsum]
  | cons y l ih => intro i; simp only [List.cons_append, wsum, ih (i+1), List.length_cons]; rw [show i + 1 + l.length = i + (l.length + 1) from by omega]; omega
theorem prime37 (a d : Int) (h1 : 1 ≤ a) (h2 : a ≤ 36) (h3 : -36 ≤ d) (h4 : d ≤ 36) (h : (a * d) % 37 = 0) : d = 0 := by
  have key : ∀ a b : Fin 37, 1 ≤ a.val → ((a.val : Int) * b.val) % 37 = 0 → b.val = 0 := by decide +kernel
  have k := key ⟨a.toNat, by omega⟩ ⟨(d % 37).toNat, by omega⟩ (by simp; omega)
  simp only at k
  rw [Int.toNat_of_nonneg (by omega), Int.toNat_of_nonneg (by omega)] at k
  have e : (a * (d % 37)) % 37 = 0 := by rw [Int.mul_emod, Int.emod_emod_of_dvd d (Int.dvd_refl 37), ← Int.mul_emod]; exact h
  have := k e
  omega
theorem valC_inj {c d : UInt8} (hc : 0 ≤ valC c) (h : valC c = valC d) : c = d := by
  have key : ∀ a b : Fin 256, 0 ≤ valC (UInt8.ofNat a.val) → valC (UInt8.ofNat a.val) = valC (UInt8.ofNat b.val) → a.val = b.val := by decide +kernel
  have := key ⟨c.toNat, c.toNat_lt⟩ ⟨d.toNat, d.toNat_lt⟩ (by simpa using hc) (by simpa using h)
  exact UInt8.toNat_inj.1 this
theorem sym_at : ∀ x : Nat, x < 37 → valC (symbols.getD x 0) = x := by decide +kernel
/-- One symbol in the midst: the sum tells it. -/
theorem mid_unique {a b : List UInt8} {c d : UInt8} (hn : a.length < 36) (hc : 0 ≤ valC c) (hd : 0 ≤ valC d) (h1 : ck (a ++ [c] ++ b) = 0) (h2 : ck (a ++ [d] ++ b) = 0) : c = d := by
  refine valC_inj hc ?_
  have bc := valC_bd c
  have bd := valC_bd d
  unfold ck at h1 h2
  simp only [List.map_append, List.map_cons, List.map_nil, wsum_app, wsum, List.length_append, List.length_cons, List.length_nil, List.length_map] at h1 h2
  rw [Int.max_eq_left hc] at h1
  rw [Int.max_eq_left hd] at h2
  have e : ((a.length : Int) + 1) * (valC c - valC d) = (a.length + 1) * valC c - (a.length + 1) * valC d := Int.mul_sub ..
  push_cast at h1 h2
  simp only [Int.zero_add] at h1 h2
  have := prime37 (a.length + 1) (valC c - valC d) (by omega) (by omega) (by omega) (by omega) (by rw [e]; omega)
  omega
def SealOut (l r : List UInt8) (e : Int) : Prop :=
  (e = 4 ∧ r = [] ∧ (l.length = 0 ∨ 23 < l.length)) ∨ (1 ≤ l.length ∧ l.length ≤ 23 ∧ ((e = 2 ∧ r = [] ∧ ¬ isCode l) ∨ (e = 0 ∧ isCode l ∧ ∃ c, r = l ++ [c] ∧ 0 ≤ valC c ∧ ck r = 0)))
theorem SealOut.same {l r r' : List UInt8} {e e' : Int} (h : SealOut l r e) (h' : SealOut l r' e') : r = r' ∧ e = e' := by
  rcases h with ⟨rfl, rfl, h1⟩ | ⟨h1, h2, ⟨rfl, rfl, h3⟩ | ⟨rfl, h3, c, rfl, hc, hk⟩⟩ <;> rcases h' with ⟨rfl, rfl, h1'⟩ | ⟨h1', h2', ⟨rfl, rfl, h3'⟩ | ⟨rfl, h3', c', rfl, hc', hk'⟩⟩ <;> first | exact ⟨rfl, rfl⟩ | omega | exact absurd h3' h3 | exact absurd h3 h3' | skip
  have := mid_unique (a := l) (b := []) (by omega) hc hc' (by simpa using hk) (by simpa using hk')
  rw [this]; exact ⟨rfl, rfl⟩
end Go.Proofs.YtogccnngdfancaaGreat.Pl
namespace Go.Proofs.YtogccnngdfancaaGreat.Pl
end Go.Proofs.YtogccnngdfancaaGreat.Pl
namespace Go.Proofs.YtogccnngdfancaaGreat.Pl
end Go.Proofs.YtogccnngdfancaaGreat.Pl
namespace Go.Proofs.YtogccnngdfancaaGreat
open Go.RowKit Pl

theorem wrap_sum {s x m : Int} (h1 : 0 ≤ s) (h2 : s ≤ 147456) (h3 : 0 ≤ m * max x 0) (h4 : m * max x 0 ≤ 64 * 36) :
    wrap64 (s + wrap64 (m * if x < 0 then 0 else x)) = s + m * max x 0 := by
  have e : (if x < 0 then 0 else x) = max x 0 := by rw [Int.max_def]; split <;> split <;> omega
  rw [e, IntWalk.wrap64_in (m * max x 0) ⟨by omega, by omega⟩, IntWalk.wrap64_in _ ⟨by omega, by omega⟩]

set_option maxHeartbeats 400000 in
theorem sum_any (v : Value) (xs : List Int) (S : Nat → Prop) (w : World) (hv : Rd (.int .i64) w S v xs) (hl : xs.length ≤ 64) (hb : ∀ x ∈ xs, -1 ≤ x ∧ x ≤ 36) :
    Calls Tryz.prog 44 #[v] w fun e w' => e = .returned (.int .i64 (wsum 0 xs % 37)) ∧ w = w' := by
  obtain ⟨A, n, cap, rfl, hn, hcap, hmax, hc⟩ := hv.open_
  have HN := Lib.hid hn; clear hn
  have hn64 : n ≤ 64 := by have := HN.out; omega
  go_enter Tryz.func44, Tryz.ntmps44
  go_wp2
  go_loop [3, 8] (fun t i => ∃ k : Nat, k ≤ n ∧ i = .int .i64 k ∧ t = .int .i64 (wsum 0 (xs.take k)))
    (fun _ i => n - (intOf i).toNat)
  case atStart => exact ⟨0, Nat.zero_le _, rfl, rfl⟩
  case round =>
    obtain ⟨k, hk, rfl, rfl⟩ := hrel
    by_cases hlt : k < n
    · obtain ⟨b, off, x, rfl, _, hx, hcell⟩ := hc k hlt
      clear hc
      have hx1 := hb x (mem_of_get? hx)
      have hs := wsum_bd (xs.take k) (fun y hy => hb y (List.mem_of_mem_take hy)) 0
      have hlk : (xs.take k).length = k := by rw [List.length_take, HN.out]; omega
      have hsn := wsum_snoc (xs.take k) x 0
      rw [← take_snoc? hx, hlk] at hsn
      rw [hlk] at hs
      obtain ⟨s, hS⟩ : ∃ s, s = wsum 0 (xs.take k) := ⟨_, rfl⟩
      rw [← hS] at hs hsn ⊢
      have hs1 : 0 ≤ s := hs.1
      have hk2 : (k : Int) * k ≤ 64 * 64 := Int.mul_le_mul (by omega) (by omega) (by omega) (by omega)
      have hs2 : s ≤ 147456 := by have := hs.2; push_cast at this; rw [Int.zero_add] at this; omega
      have hm : 0 ≤ max x 0 ∧ max x 0 ≤ 36 := by omega
      have hp0 : 0 ≤ ((k : Int) + 1) * max x 0 := Int.mul_nonneg (by omega) hm.1
      have hp1 : ((k : Int) + 1) * max x 0 ≤ 64 * 36 := Int.mul_le_mul (by omega) hm.2 hm.1 (by omega)
      have HSN := Lib.hid hsn
      clear hs hk2 hsn hS hx hlk
      go_wp2
      go_round
      case rel => exact ⟨k + 1, by omega, by go_num, by rw [HSN.out, wrap_sum hs1 hs2 hp0 hp1]; simp⟩
      case measure => simp [intOf]; omega
    · have hw := wsum_bd xs hb 0
      have hs1 : 0 ≤ wsum 0 (xs.take k) := (wsum_bd (xs.take k) (fun y hy => hb y (List.mem_of_mem_take hy)) 0).1
      have HT := Lib.hid (show xs.take k = xs from List.take_of_length_le (by rw [HN.out]; omega))
      clear hw hc
      go_wp2
      go_ret
      exact ⟨ret_int (by rw [HT.out]), rfl⟩

set_option maxHeartbeats 400000 in
theorem count_any (v : Value) (xs : List Int) (S : Nat → Prop) (w : World) (hv : Rd (.int .i64) w S v xs) :
    Calls Tryz.prog 42 #[v] w fun e w' => e = .returned (.int .i64 (below0 xs)) ∧ w = w' := by
  obtain ⟨A, n, cap, rfl, hn, hcap, hmax, hc⟩ := hv.open_
  have HN := Lib.hid hn; clear hn
  go_enter Tryz.func42, Tryz.ntmps42
  go_wp2
  go_loop [3, 8] (fun t i => ∃ k c : Nat, k ≤ n ∧ c ≤ k ∧ Hid (c = below0 (xs.take k)) ∧ i = .int .i64 k ∧ t = .int .i64 c)
    (fun _ i => n - (intOf i).toNat)
  case atStart => exact ⟨0, 0, Nat.zero_le _, Nat.zero_le _, rfl, rfl, rfl⟩
  case round =>
    obtain ⟨k, c, hk, hck, HC, rfl, rfl⟩ := hrel
    by_cases hlt : k < n
    · obtain ⟨b, off, x, rfl, _, hx, hcell⟩ := hc k hlt
      clear hc
      have HS : Hid (below0 (xs.take (k + 1)) = below0 (xs.take k) + if x < 0 then 1 else 0) := by
        rw [take_snoc? hx]; unfold below0 Hid; rw [List.filter_append]; by_cases h : x < 0 <;> simp [h]
      clear hx
      go_wp2
      · go_round
        case rel => exact ⟨k + 1, c + 1, by omega, by omega, by have := HS.out; rw [if_pos ‹_›, ← HC.out] at this; exact this.symm, by go_num, by go_num⟩
        case measure => simp [intOf]; omega
      · go_round
        case rel => exact ⟨k + 1, c, by omega, by omega, by have := HS.out; rw [if_neg (by omega), ← HC.out] at this; exact this.symm, by go_num, by go_num⟩
        case measure => simp [intOf]; omega
    · have HT := Lib.hid (show xs.take k = xs from List.take_of_length_le (by rw [HN.out]; omega))
      clear hc
      go_wp2
      go_ret
      exact ⟨ret_int (by rw [HC.out, HT.out]), rfl⟩

theorem solve_ex (f n : Int) (h1 : 1 ≤ f) (h2 : f ≤ 36) : ∃ x : Nat, x < 37 ∧ (f * x + n) % 37 = 0 := by
  have h : ∀ a b : Fin 37, 1 ≤ a.val → ∃ x : Fin 37, ((a.val : Int) * x.val + b.val) % 37 = 0 := by decide +kernel
  obtain ⟨x, hx⟩ := h ⟨f.toNat, by omega⟩ ⟨(n % 37).toNat, by omega⟩ (by simp; omega)
  refine ⟨x.val, x.isLt, ?_⟩
  simp only at hx
  rw [Int.toNat_of_nonneg (by omega), Int.toNat_of_nonneg (by omega)] at hx
  omega

set_option maxHeartbeats 400000 in
theorem solve_any (f n : Int) (w : World) (h1 : 1 ≤ f) (h2 : f ≤ 36) (h3 : 0 ≤ n) (h4 : n ≤ 36) :
    Calls Tryz.prog 43 #[.int .i64 f, .int .i64 n] w fun e w' => (∃ x : Nat, x < 37 ∧ (f * x + n) % 37 = 0 ∧ e = .returned (.int .i64 x)) ∧ w = w' := by
  have HEX := Lib.hid (solve_ex f n h1 h2)
  go_enter Tryz.func43, Tryz.ntmps43
  go_wp2
  go_loop [5] (fun i => ∃ k : Nat, k < 37 ∧ Hid (∀ j : Nat, j < k → (f * j + n) % 37 ≠ 0) ∧ i = .int .i64 k) (fun i => 37 - (intOf i).toNat)
  case atStart => exact ⟨0, by omega, fun j hj => absurd hj (by omega), rfl⟩
  case round =>
    obtain ⟨k, hk, HK, rfl⟩ := hrel
    have b1 : 0 ≤ f * k := Int.mul_nonneg (by omega) (by omega)
    have b2 : f * k ≤ 36 * 36 := Int.mul_le_mul h2 (by omega) (by omega) (by omega)
    by_cases hz : (f * k + n) % 37 = 0
    · have hz' : ((f * k + n) % 37 != 0) = false := by simpa using hz
      have HZ := Lib.hid hz; clear hz
      go_wp2
      go_ret
      exact ⟨⟨k, hk, HZ.out, rfl⟩, rfl⟩
    · have hz' : ((f * k + n) % 37 != 0) = true := by simpa using hz
      have hk36 : k < 36 := by
        obtain ⟨x, hx, hx0⟩ := HEX.out
        rcases Nat.lt_trichotomy x k with h | h | h
        · exact absurd hx0 (HK.out x h)
        · subst h; exact absurd hx0 hz
        · omega
      have HK1 : Hid (∀ j : Nat, j < k + 1 → (f * j + n) % 37 ≠ 0) := fun j hj => by
        rcases Nat.lt_or_ge j k with h | h
        · exact HK.out j h
        · obtain rfl : j = k := by omega
          exact hz
      clear hz
      go_wp2
      go_round
      case rel => exact ⟨k + 1, by omega, HK1, by go_num⟩
      case measure => simp [intOf]; omega

set_option maxHeartbeats 400000 in
set_option maxRecDepth 100000 in
theorem strliteIndexByte_any (s : ByteArray) (c : Int) (w : World) :
    Calls Tryz.prog 102 #[.string s, .int .u8 c] w fun e w' => e = .returned (.int .i64 (Lib.indexByte s.data.toList c.toNat.toUInt8)) ∧ w = w' := by
  go_enter Tryz.func102, Tryz.ntmps102
  go_wp2
  rw [run_callFunc_extern Tryz.func126 (by kernel_rfl) (by kernel_rfl) (by kernel_rfl) (e := Extern.BytealgIndexByte.indexByte) (by kernel_rfl), Lib.run_indexByteString]
  simp only [Result.andThen]
  rw [Oper.upon_value]
  go_wp2
  go_ret
  exact ⟨rfl, rfl⟩

set_option maxHeartbeats 400000 in
theorem indexByte_any (s : ByteArray) (c : Int) (w : World) :
    Calls Tryz.prog 71 #[.string s, .int .u8 c] w fun e w' => e = .returned (.int .i64 (Lib.indexByte s.data.toList c.toNat.toUInt8)) ∧ w = w' := by
  go_enter Tryz.func71, Tryz.ntmps71
  go_wp2_with (go_at_call 102; refine (strliteIndexByte_any _ _ _).mono ?_; rintro e w' ⟨rfl, rfl⟩)
  go_ret
  exact ⟨rfl, rfl⟩
/-- strings.IndexByte in the symbols. -/
theorem symbol_any (x : UInt8) (w : World) : Calls Tryz.prog 71 #[.string ⟨#[48, 49, 50, 51, 52, 53, 54, 55, 56, 57, 65, 66, 67, 68, 69, 70, 71, 72, 73, 74, 75, 76, 77, 78, 79, 80, 81, 82, 83, 84, 85, 86, 87, 88, 89, 90, 45]⟩, .int .u8 x.toNat] w
    fun e w' => e = .returned (.int .i64 (valC x)) ∧ w = w' :=
  (indexByte_any _ _ _).mono fun e w' ⟨he, hw⟩ => ⟨by rw [he]; exact ret_int (by show Lib.indexByte symbols _ = Lib.indexByte symbols x; simp), hw⟩

set_option maxRecDepth 100000 in
set_option maxHeartbeats 400000 in
theorem values_any (s : ByteArray) (w : World) (hs : s.size ≤ 1000) :
    Calls Tryz.prog 41 #[.string s] w fun e w' => (∃ v, e = .returned v ∧ Rd (.int .i64) w' (w.heap.size ≤ ·) v (s.data.toList.map valC)) ∧ Below w.heap.size w w' := by
  obtain ⟨i0, hi, hz0, hz1, hz2⟩ := info_parts info3
  obtain ⟨cap, C, m, hconv, hcap, hmax, hC, hm, hcell⟩ := bytes_of s w (by unfold maxLen; omega)
  have HC := Lib.hid hC; clear hC
  have HM := Lib.hid hm; clear hm
  have hlen : s.data.toList.length = s.size := by simp
  have hc1 : ∀ i x, s.data.toList[i]? = some x → (w.drew.alloc (.cells C 5 m)).cell? ⟨w.heap.size, i, none⟩ = some (.int .u8 x.toNat) := fun i x hx => by
    obtain ⟨hk, rfl⟩ := List.getElem?_eq_some_iff.1 hx
    exact (cell?_alloc_mark' w.drew C 5 m i).trans (hcell i hk)
  obtain ⟨l, hl⟩ : ∃ l, l = s.data.toList := ⟨_, rfl⟩
  have HL := Lib.hid hl
  rw [← hl] at hlen hc1 
  have HN := Lib.hid hlen
  have b1 : Below w.heap.size w (w.drew.alloc (.cells C 5 m)) := ((Below.refl _ _).drew).alloc (Nat.le_refl _) _
  have sz1 : (w.drew.alloc (.cells C 5 m)).heap.size = w.heap.size + 1 := by simp
  clear hl hlen hcell
  go_enter Tryz.func41, Tryz.ntmps41
  go_wp2_with fail
  clear hconv
  go_loopw [3, 9] (fun v i wr => ∃ k : Nat, k ≤ s.size ∧ i = .int .i64 k ∧ wr.ownsRow (w.heap.size + 1) 3 1 v k ((l.take k).map fun c => .int .i64 (valC c)) ∧
      Hid (∀ i x, l[i]? = some x → wr.cell? ⟨w.heap.size, i, none⟩ = some (.int .u8 x.toNat)) ∧ Below w.heap.size w wr ∧ w.heap.size + 1 ≤ wr.heap.size) (fun _ i _ => s.size - (intOf i).toNat)
  case atStart => exact ⟨0, Nat.zero_le _, rfl, World.ownsRow_nil _ _ _ _, hc1, b1, by simp⟩
  case round =>
    clear hc1 b1 sz1
    obtain ⟨k, hk, rfl, hown, HCL, hbel, hsz⟩ := hrel
    by_cases hlt : k < s.size
    · obtain ⟨x, hx⟩ : ∃ x, l[k]? = some x := ⟨l[k]'(by have := HN.out; omega), List.getElem?_eq_getElem (by have := HN.out; omega)⟩
      have hcx := HCL.out k x hx
      have HX := Lib.hid hx; clear hx
      have hvb := valC_bd x
      go_wp2_with (first
        | (go_at_call 71; refine (symbol_any _ _).mono ?_; rintro e w' ⟨rfl, rfl⟩)
        | (at_builtin; refine wpList_append_own _ rfl _ _ 22 rfl (w.heap.size + 1) 3 i0 (.int .i64 0) 1 8 Tryz.underlying22 hi hz0 hz1 hz2 rfl (by decide) _ _ _ rfl (hown.alloc _) ⟨wr.heap.size, 0, none⟩ 1 1 [.int .i64 (valC x)] rfl rfl (cell_one_new _ _ _) (fun u hu => by simp at hu; subst hu; rfl) (by unfold maxLen; omega) (by omega) (by simp; omega) ?_; intro v' w1 hown' hgrow _))
      have hown'' : w1.ownsRow (w.heap.size + 1) 3 1 v' (k + 1) ((l.take (k + 1)).map fun c => .int .i64 (valC c)) := by
        rw [take_snoc? HX.out, List.map_append]; exact hown'
      obtain ⟨hb1, hs1⟩ := grown_below hown hgrow hsz
      have HCL1 : Hid (∀ i x, l[i]? = some x → w1.cell? ⟨w.heap.size, i, none⟩ = some (.int .u8 x.toNat)) := fun i x h => (hb1.cell (p := ⟨w.heap.size, i, none⟩) (by simp)).trans (HCL.out i x h)
      go_roundw
      case rel => exact ⟨k + 1, by omega, by go_num, hown'', HCL1, hbel.trans (hb1.mono (by omega)), by omega⟩
      case measure => simp [intOf]; omega
    · have hk' : k = s.size := by omega
      have hr : Rd (.int .i64) wr (w.heap.size ≤ ·) u3 (s.data.toList.map valC) := by
        refine (Rd.of_own (xs := s.data.toList.map valC) (by rw [List.map_map]; rw [← HL.out]; rw [List.take_of_length_le (by rw [HN.out]; omega)] at hown; exact hown)).mono (fun b hb => by omega)
      go_wp2
      go_ret
      exact ⟨⟨_, rfl, hr⟩, hbel⟩
theorem ba_len (s : ByteArray) : s.data.toList.length = s.size := by simp
theorem sym_slice (x : Nat) (hx : x < 37) (k : Nat) (hk : x < k) : ((symbols.drop x).take (k - x)).take 1 = [symbols.getD x 0] := by
  rw [List.take_take, show min 1 (k - x) = 1 from by omega]
  have : x < symbols.length := by simpa [symbols] using hx
  rw [List.drop_eq_getElem_cons this]
  simp only [List.take_succ_cons, List.take_zero, List.getD, List.getElem?_eq_getElem this, Option.getD_some]
theorem seal_res (s : ByteArray) (x : Nat) (hx : x < 37) : (s ++ ((⟨#[48, 49, 50, 51, 52, 53, 54, 55, 56, 57, 65, 66, 67, 68, 69, 70, 71, 72, 73, 74, 75, 76, 77, 78, 79, 80, 81, 82, 83, 84, 85, 86, 87, 88, 89, 90, 45]⟩ : ByteArray).extract x 37).extract 0 1).data.toList = s.data.toList ++ [symbols.getD x 0] := by
  rw [ByteArray.data_append, Array.toList_append, Lib.extract_data, Lib.extract_data, List.drop_zero]
  exact congrArg _ (sym_slice x hx 37 (by omega))
theorem ck_put {l : List UInt8} {x : Nat} {c : UInt8} (hc : valC c = x) (h : ((l.length + 1 : Int) * x + ck l) % 37 = 0) : ck (l ++ [c]) = 0 := by
  unfold ck at *
  simp only [List.map_append, List.map_cons, List.map_nil, wsum_app, wsum, List.length_map, hc]
  rw [Int.max_eq_left (by omega)]
  push_cast
  simp only [Int.zero_add, Int.add_zero]
  omega

def SealPost (s : ByteArray) (B : Nat) (w : World) (e : Ending) (w' : World) : Prop :=
  ∃ (r : ByteArray) (c : Int), e = .returned (.tuple #[.string r, .int .i64 c]) ∧ SealOut s.data.toList r.data.toList c ∧ r.size ≤ 24 ∧ Below B w w'

set_option maxRecDepth 100000 in
set_option maxHeartbeats 400000 in
theorem seal_any (s : ByteArray) (w : World) : Calls Tryz.prog 18 #[.string s] w (SealPost s w.heap.size w) := by
  have hlen := ba_len s
  by_cases h0 : s.size = 0
  · have he : s.toList.isEmpty = true := by rw [Lib.toList_data, List.isEmpty_iff, ← List.length_eq_zero_iff, hlen]; exact h0
    have HF : Hid (SealOut s.data.toList [] 4) := .inl ⟨rfl, rfl, .inl (hlen.trans h0)⟩
    clear h0 hlen
    go_enter Tryz.func18, Tryz.ntmps18
    go_wp2_with fail
    go_ret2
    exact ⟨⟨#[]⟩, 4, rfl, HF.out, by decide, Below.refl _ _⟩
  · have he : s.toList.isEmpty = false := by rw [Lib.toList_data, List.isEmpty_eq_false_iff, ← List.length_pos_iff, hlen]; omega
    by_cases h1 : 23 < s.size
    · have HF : Hid (SealOut s.data.toList [] 4) := .inl ⟨rfl, rfl, .inr (by omega)⟩
      clear h0 hlen
      go_enter Tryz.func18, Tryz.ntmps18
      go_wp2_with fail
      go_ret2
      exact ⟨⟨#[]⟩, 4, rfl, HF.out, by decide, Below.refl _ _⟩
    · have hl : (s.data.toList.map valC).length ≤ 64 := by rw [List.length_map, hlen]; omega
      have hm : 0 ≤ wsum 0 (s.data.toList.map valC) % 37 ∧ wsum 0 (s.data.toList.map valC) % 37 ≤ 36 := by omega
      obtain ⟨xs, hxs⟩ : ∃ xs, xs = s.data.toList.map valC := ⟨_, rfl⟩
      have HX := Lib.hid hxs
      have HB := Lib.hid (vals_bd s.data.toList)
      have HL := Lib.hid hlen
      rw [← hxs] at hl hm HB
      clear hxs hlen
      have h1' : s.size ≤ 23 := by omega
      go_enter Tryz.func18, Tryz.ntmps18
      go_wp2_with fail
      refine (values_any _ _ (by omega)).mono ?_
      rintro e w1 ⟨⟨v, rfl, hr⟩, hbel⟩
      rw [← HX.out] at hr
      go_wp2_with (first
        | (go_at_call 42; refine (count_any _ _ _ _ hr).mono ?_; rintro e w' ⟨rfl, rfl⟩)
        | (go_at_call 44; refine (sum_any _ _ _ _ hr hl HB.out).mono ?_; rintro e w' ⟨rfl, rfl⟩)
        | (go_at_call 43; refine (solve_any _ _ _ (by omega) (by omega) hm.1 hm.2).mono ?_; rintro e w' ⟨⟨x, hx1, hx2, rfl⟩, rfl⟩))
      all_goals go_ret2
      · have h0 : 0 < below0 xs := by assumption
        exact ⟨⟨#[]⟩, 2, rfl, .inr ⟨by rw [HL.out]; omega, by rw [HL.out]; omega, .inl ⟨rfl, rfl, fun hc => by have := (below0_code _).2 hc; rw [← HX.out] at this; omega⟩⟩, by decide, hbel⟩
      · have h0 : ¬ 0 < below0 xs := by assumption
        have hcode : isCode s.data.toList := (below0_code _).1 (by rw [← HX.out]; omega)
        have hck : ck (s.data.toList ++ [symbols.getD x 0]) = 0 := ck_put (x := x) (sym_at x hx1) (by unfold ck; rw [HL.out, ← HX.out]; exact hx2)
        have hres := seal_res s x hx1
        refine ⟨_, 0, rfl, .inr ⟨by rw [HL.out]; omega, by rw [HL.out]; omega, .inr ⟨rfl, hcode, symbols.getD x 0, hres, by rw [sym_at x hx1]; omega, ?_⟩⟩, ?_, hbel⟩
        · rw [hres]; exact hck
        · rw [← ba_len, hres, List.length_append, HL.out]; simp; omega
end Go.Proofs.YtogccnngdfancaaGreat
namespace Go.Proofs.YtogccnngdfancaaGreat
open Go.RowKit Pl

theorem Bk.foot {w : World} {B : Nat} {p : Value} {F : Nat → Prop} {xs : List ItemD} (h : Bk w B p F xs) : ∀ k, F k → B ≤ k ∧ k < w.heap.size := by
  obtain ⟨bb, vi, r, fs, rfl, hb⟩ := h
  intro k hk
  rw [hb.hF] at hk
  rcases hk with rfl | hk | hk
  · exact ⟨hb.hB, (Array.getElem?_eq_some_iff.1 hb.blk).1⟩
  · exact hb.own.lt k hk
  · refine ⟨hb.hr k hk, ?_⟩
    rcases hb.map with ⟨e, _⟩ | ⟨b, e, hm⟩
    · rw [e] at hk; cases hk
    · rw [e] at hk; cases hk; exact hm.lt
theorem new_book (w : World) (B : Nat) (hB : B ≤ w.heap.size) : Bk (w.alloc (.cells #[.slice none 0 0, .map none] 104)) B (.pointer (some ⟨w.heap.size, 0, none⟩)) (fun k => k = w.heap.size ∨ (Value.slice none 0 0).ownBlock = some k ∨ (none : Option Nat) = some k) [] :=
  ⟨w.heap.size, .slice none 0 0, none, [], rfl, hB, heap_alloc_new w _, World.ownsRow_nil _ _ _ _, rfl, (by simp [Value.ownBlock]), .inl ⟨rfl, rfl⟩, (fun b h => by cases h), rfl, (fun i x hx => by simp at hx)⟩

set_option maxHeartbeats 400000 in
theorem newB_any (w : World) : Calls Tryz.prog 19 #[] w fun e w' => e = .returned (.pointer (some ⟨w.heap.size, 0, none⟩)) ∧ w.alloc (.cells #[.slice none 0 0, .map none] 104) = w' := by
  go_enter Tryz.func19, Tryz.ntmps19
  go_wp2_with fail
  go_ret
  exact ⟨rfl, rfl⟩

def exA : ItemD := ⟨⟨#[97]⟩, 0, 0, []⟩
def exC : ItemD := ⟨⟨#[99]⟩, 1, 7, [[⟨#[97]⟩]]⟩
def exF : FaultD := ⟨⟨#[97]⟩, 5, 9⟩
theorem ex_seal : SealOut [65, 49] [65, 49, 88] 0 := by
  refine .inr ⟨by decide, by decide, .inr ⟨rfl, ?_, 88, rfl, by decide +kernel, by decide +kernel⟩⟩
  intro c hc
  simp at hc
  rcases hc with rfl | rfl <;> decide +kernel
theorem ex_a : entErr [] exA = 0 := by decide +kernel
theorem ex_a' : entNew [] exA = [exA] := by unfold entNew; rw [if_pos ex_a]; rfl
theorem ex_c : entErr [exA] exC = 0 := by decide +kernel
theorem ex_c' : entNew [exA] exC = [exA, exC] := by unfold entNew; rw [if_pos ex_c]; rfl
theorem ex_f : faultErr [exA, exC] exF = 0 := by decide +kernel
theorem ex_n : namesOf [exA, exC] (touchedMs [exA, exC] exF) = [⟨#[99]⟩] := by decide +kernel
theorem ex_found : Found [exA, exC] := by
  intro x hx c hc nm hnm
  simp at hx
  rcases hx with rfl | rfl
  · simp [exA] at hc
  · simp [exC] at hc; subst hc; simp at hnm; subst hnm; exact ⟨by decide, by decide +kernel⟩
theorem seal_ex1 (w : World) : Calls Tryz.prog 18 #[.string ⟨#[65, 49]⟩] w fun e w' => e = .returned (.tuple #[.string ⟨#[65, 49, 88]⟩, .int .i64 0]) ∧ Below w.heap.size w w' :=
  (seal_any ⟨#[65, 49]⟩ w).mono fun e w' ⟨r, c, he, hs, _, hb⟩ => by
    obtain ⟨h1, h2⟩ := hs.same ex_seal
    have : r = ⟨#[65, 49, 88]⟩ := ba_inj h1
    subst this h2
    exact ⟨he, hb⟩

theorem max5_ex (w : World) : (Builtin.max_ #[35, 35, 35, 35, 35] 35 #[Value.int IntKind.i64 0, Value.int IntKind.i64 0, Value.int IntKind.i64 0, Value.int IntKind.i64 0, Value.int IntKind.i64 0]).run Tryz.prog w = .ok (.int .i64 0) w := by kernel_rfl
def exW : WorksD := ⟨1, 10, [20, 20], [2, 2], [1, 1]⟩
theorem rd_two (W : World) (S : Nat → Prop) (b : Nat) (x y : Int) (t : TypeId) (hb : S b) (h : W.heap[b]? = some (.cells #[.int .i64 x, .int .i64 y] t)) : Rd (Value.int .i64) W S (.slice (some ⟨b, 0, none⟩) 2 2) [x, y] :=
  ⟨_, 2, rfl, Nat.le_refl _, by simp [maxLen], fun _ => ⟨b, 0, rfl, hb, fun i hi => by
    match i, hi with
    | 0, _ => exact cell_of_row W _ 0 _ _ _ h
    | 1, _ => exact cell_of_row W _ 1 _ _ _ h⟩⟩
theorem exW_new (w : World) : WkV (((w.alloc (.cells #[.int .i64 20, .int .i64 20] 3)).alloc (.cells #[.int .i64 2, .int .i64 2] 3)).alloc (.cells #[.int .i64 1, .int .i64 1] 3)) (fun _ => True) (.agg #[.int .i64 1, .int .i64 10, .slice (some ⟨w.heap.size, 0, none⟩) 2 2, .slice (some ⟨w.heap.size + 1, 0, none⟩) 2 2, .slice (some ⟨w.heap.size + 1 + 1, 0, none⟩) 2 2]) exW := by
  obtain ⟨W, hW⟩ : ∃ W, W = ((w.alloc (.cells #[.int .i64 20, .int .i64 20] 3)).alloc (.cells #[.int .i64 2, .int .i64 2] 3)).alloc (.cells #[.int .i64 1, .int .i64 1] 3) := ⟨_, rfl⟩
  have m0 : W.heap[w.heap.size]? = some (.cells #[.int .i64 20, .int .i64 20] 3) := by rw [hW, Below.heap_alloc _ _ _ (by simp; omega), Below.heap_alloc _ _ _ (by simp)]; exact heap_alloc_new w _
  have m1 : W.heap[w.heap.size + 1]? = some (.cells #[.int .i64 2, .int .i64 2] 3) := by rw [hW, Below.heap_alloc _ _ _ (by simp)]; have := heap_alloc_new (w.alloc (.cells #[.int .i64 20, .int .i64 20] 3)) (.cells #[.int .i64 2, .int .i64 2] 3); simpa using this
  have m2 : W.heap[w.heap.size + 1 + 1]? = some (.cells #[.int .i64 1, .int .i64 1] 3) := by rw [hW]; have := heap_alloc_new ((w.alloc (.cells #[.int .i64 20, .int .i64 20] 3)).alloc (.cells #[.int .i64 2, .int .i64 2] 3)) (.cells #[.int .i64 1, .int .i64 1] 3); simpa using this
  rw [← hW]
  exact ⟨_, _, _, rfl, rd_two W _ _ _ _ _ trivial m0, rd_two W _ _ _ _ _ trivial m1, rd_two W _ _ _ _ _ trivial m2⟩
theorem exW_err : wErr exW = 0 := by decide +kernel
theorem exW_bound : boundW exW = 90 := by decide +kernel
theorem bound_ex (w : World) : Calls Tryz.prog 9 #[.agg #[.int .i64 1, .int .i64 10, .slice (some ⟨w.heap.size, 0, none⟩) 2 2, .slice (some ⟨w.heap.size + 1, 0, none⟩) 2 2, .slice (some ⟨w.heap.size + 1 + 1, 0, none⟩) 2 2]] (((w.alloc (.cells #[.int .i64 20, .int .i64 20] 3)).alloc (.cells #[.int .i64 2, .int .i64 2] 3)).alloc (.cells #[.int .i64 1, .int .i64 1] 3)) fun e w' => e = .returned (.tuple #[.int .i64 90, .int .i64 0]) ∧ Below (w.heap.size + 3) (((w.alloc (.cells #[.int .i64 20, .int .i64 20] 3)).alloc (.cells #[.int .i64 2, .int .i64 2] 3)).alloc (.cells #[.int .i64 1, .int .i64 1] 3)) w' := by
  have h := Bound_any _ exW _ _ (exW_new w)
  rw [exW_err, if_pos rfl, exW_bound] at h
  refine h.mono ?_
  rintro e w' ⟨h1, h2⟩
  exact ⟨h1, by simpa using h2⟩

set_option maxRecDepth 100000 in
set_option maxHeartbeats 2000000 in
theorem awake_any (w : World) : Calls Tryz.prog 5 #[] w fun e w' => e = .returned (.bool true) ∧ Below w.heap.size w w' := by
  obtain ⟨B, hB⟩ : ∃ B, B = w.heap.size := ⟨_, rfl⟩
  rw [← hB]
  go_enter Tryz.func5, Tryz.ntmps5
  go_wp2_with fail
  refine (seal_ex1 _).mono ?_
  rintro e w1 ⟨rfl, hb1⟩
  go_wp2_with fail
  refine (newB_any _).mono ?_
  rintro e w2 ⟨rfl, hw2⟩
  have hbk2 := new_book w1 B (by have := hb1.size; omega)
  rw [hw2] at hbk2
  have hb2 : Below B w w2 := by rw [← hw2]; exact (hb1.mono (by omega)).alloc (by have := hb1.size; omega) _
  obtain ⟨p, hp⟩ : ∃ p, p = Value.pointer (some ⟨w1.heap.size, 0, none⟩) := ⟨_, rfl⟩
  obtain ⟨F2, hF2⟩ : ∃ F2, F2 = (fun k => k = w1.heap.size ∨ (Value.slice none 0 0).ownBlock = some k ∨ (none : Option Nat) = some k) := ⟨_, rfl⟩
  rw [← hF2, ← hp] at hbk2
  rw [← hp]
  clear hF2 hp hw2 hb1
  go_wp2_with fail
  have hB2 : B ≤ w2.heap.size := by have := hb2.size; omega
  refine (enter_any p (.slice none 0 0) B F2 (fun _ => False) [] exA w2 hbk2 ⟨[], Rd.none_ _ _ _, rfl, by simp [exA]⟩ (fun k h => h.elim) (by decide) (by simp [exA]) hB2 (by decide)).mono ?_
  rintro e w3 ⟨rfl, F3, hbk3, hk3, hF3⟩
  rw [ex_a'] at hbk3
  rw [ex_a]
  have hf2 := hbk2.foot
  have hb3 : Below B w w3 := hb2.trans (Keep.below (hk3.mono fun k hk => ⟨by omega, fun h => by have := (hf2 k h).1; omega⟩))
  clear hk3 hF3 hbk2 hf2 hb2 hB2
  go_wp2_with fail
  have hf3 := hbk3.foot
  have hs3 := hb3.size
  obtain ⟨W, hW⟩ : ∃ W, W = (w3.alloc (.cells #[.string ⟨#[97]⟩] 9)).alloc (.cells #[.slice (some ⟨w3.heap.size, 0, none⟩) 1 1] 72) := ⟨_, rfl⟩
  have hbW : Below w3.heap.size w3 W := by rw [hW]; exact ((Below.refl _ _).alloc (Nat.le_refl _) _).alloc (by simp) _
  have hm1 : W.heap[w3.heap.size]? = some (.cells #[.string ⟨#[97]⟩] 9) := by rw [hW, Below.heap_alloc _ _ _ (by simp)]; exact heap_alloc_new w3 _
  have hm2 : W.heap[w3.heap.size + 1]? = some (.cells #[.slice (some ⟨w3.heap.size, 0, none⟩) 1 1] 72) := by rw [hW]; have := heap_alloc_new (w3.alloc (.cells #[.string ⟨#[97]⟩] 9)) (.cells #[.slice (some ⟨w3.heap.size, 0, none⟩) 1 1] 72); simpa using this
  rw [← hW]
  have hv2 : Rd2 W (w3.heap.size ≤ ·) (.slice (some ⟨w3.heap.size + 1, 0, none⟩) 1 1) exC.frm := by
    refine ⟨[.slice (some ⟨w3.heap.size, 0, none⟩) 1 1], ⟨_, 1, rfl, Nat.le_refl _, by simp [maxLen], fun _ => ⟨w3.heap.size + 1, 0, rfl, by omega, fun i hi => ?_⟩⟩, rfl, fun i x hx => ?_⟩
    · simp at hi; subst hi; exact cell_of_row W _ 0 _ _ _ hm2
    · match i with
      | 0 =>
        simp [exC] at hx; subst hx
        refine ⟨_, rfl, ⟨_, 1, rfl, Nat.le_refl _, by simp [maxLen], fun _ => ⟨w3.heap.size, 0, rfl, Nat.le_refl _, fun i hi => ?_⟩⟩⟩
        simp at hi; subst hi; exact cell_of_row W _ 0 _ _ _ hm1
      | i + 1 => simp [exC] at hx
  have hBW : B ≤ W.heap.size := by have := hbW.size; omega
  refine (enter_any p _ B F3 (w3.heap.size ≤ ·) [exA] exC W (hbk3.below hbW) hv2 (fun k h hF => by have := (hf3 k hF).2; omega) (by decide) (by intro c hc s hs; simp [exC] at hc; subst hc; simp at hs; subst hs; decide) hBW (by decide)).mono ?_
  rintro e w4 ⟨rfl, F4, hbk4, hk4, hF4⟩
  rw [ex_c'] at hbk4
  rw [ex_c]
  have hb4 : Below B w w4 := hb3.trans ((hbW.mono (by omega)).trans (Keep.below (hk4.mono fun k hk => ⟨by omega, fun h => by have := (hf3 k h).1; omega⟩)))
  clear hk4 hF4 hv2 hbk3 hf3 hb3 hm1 hm2 hbW hW hs3 hBW
  go_wp2_with fail
  refine (Touched_any p B F4 [exA, exC] exF w4 hbk4 ex_found (by decide) (by decide)).mono ?_
  rintro e w5 ⟨⟨v, rfl, hr⟩, hb5⟩
  rw [ex_f] at hr ⊢
  rw [if_pos rfl, ex_n] at hr
  obtain ⟨A, n, cap, rfl, hn, hcap, hmax, hc⟩ := hr.lt.open_
  simp at hn
  subst hn
  obtain ⟨b, off, x, rfl, ⟨_, hbl⟩, hx, hcell⟩ := hc 0 (by omega)
  simp at hx
  subst hx
  have hs4 := hb4.size
  have hb5' : Below B w w5 := hb4.trans (hb5.mono (by omega))
  clear hbk4 hr hc hb5 hb4
  go_wp2_with fail
  refine (bound_ex w5).mono ?_
  rintro e w6 ⟨rfl, hb6⟩
  have hb56 : Below w5.heap.size w5 w6 := ((((Below.refl _ w5).alloc (Nat.le_refl _) _).alloc (by simp) _).alloc (by simp; omega) _).trans (hb6.mono (by simp))
  have hcell6 : w6.cell? ⟨b, off, none⟩ = some (.string ⟨#[99]⟩) := (hb56.cell (p := ⟨b, off, none⟩) hbl).trans hcell
  have hs5 := hb5'.size
  clear hb6 hcell
  have h5 := max5_ex
  go_wp2_with fail
  go_ret
  exact ⟨rfl, hb5'.trans (hb56.mono (by omega))⟩
end Go.Proofs.YtogccnngdfancaaGreat
