/- The walks of slices.Clone and of plant.copied. -/
import Derived.Test.YtogccnngdfancaaBase2
import Derived.Deep.RegionWith
namespace Go.Proofs.Ytogccnngdfancaa
open Go.RowKit

set_option maxRecDepth 100000 in
set_option maxHeartbeats 400000 in
theorem clone96_own (v : Value) (xs : List ByteArray) (S : Nat → Prop) (w : World) (hv : Rd .string w S v xs) (hl : xs.length ≤ 1000000) :
    Calls Try.prog 52 #[v] w fun e w' => (∃ v', e = .returned v' ∧ w'.ownsRow w.heap.size 9 1 v' xs.length (xs.map Value.string)) ∧ Below w.heap.size w w' := by
  obtain ⟨i0, hi, hz0, hz1, hz2⟩ := info_parts info9
  have hv0 := hv.lt
  obtain ⟨A, cap, rfl, hcap, hmax, _⟩ := hv
  have heq := fun (w : World) (A : Option Addr) (n c : Nat) => Lib.run_eql_slice_nil (P := Try.prog) w 58 9 A n c 0 0 Try.underlying58
  obtain ⟨n, hn⟩ : ∃ n, n = xs.length := ⟨_, rfl⟩
  rw [← hn] at hl hcap hv0 ⊢
  have HN := Lib.hid hn
  clear hn
  cases A with
  | none =>
    have HX := Lib.hid hv0.nil_of
    go_enter Try.func52, Try.ntmps52
    go_wp2_with fail
    go_ret
    exact ⟨⟨_, rfl, by rw [HN.out, HX.out]; exact World.ownsRow_nil _ _ _ _⟩, Below.refl _ _⟩
  | some ad =>
    have hc1 := (hv0.keep (((Keep.refl _ w).alloc (fun k hk => hk.2) (.cells #[] 9)))).cells
    have HC := Lib.hid hc1
    have HL : Hid ((xs.map Value.string).length = n * 1) := by rw [List.length_map, HN.out]; show _ = _; omega
    clear hc1 hv0
    go_enter Try.func52, Try.ntmps52
    go_wp2_with (at_builtin; refine wpList_append_own _ rfl _ _ 58 rfl w.heap.size 9 i0 (.string ⟨#[]⟩) 1 16 Try.underlying58 hi hz0 hz1 hz2 rfl (by decide) _ 0 [] rfl (World.ownsRow_made w #[] 0 (Nat.le_refl _) (by decide) rfl) ad n cap (xs.map Value.string) rfl HL.out HC.out (fun u hu => by obtain ⟨x, _, rfl⟩ := List.mem_map.1 hu; rfl) (by unfold maxLen; omega) (by omega) (by simp) ?_; intro v' w1 hown' hgrow _)
    go_ret
    have hown'' : w1.ownsRow w.heap.size 9 1 v' n (xs.map Value.string) := by simpa using hown'
    exact ⟨⟨_, rfl, hown''⟩, ((Below.refl _ w).alloc (Nat.le_refl _) _).grown hgrow (by simp) (fun k hk => by simp [Value.ownBlock, Act.eval] at hk; omega)⟩
set_option maxRecDepth 100000 in
set_option maxHeartbeats 400000 in
theorem clone95_own (v : Value) (xs : List Value) (S : Nat → Prop) (w : World) (hv : Rd id w S v xs) (hone : ∀ u ∈ xs, u.oneCell' = true) (hl : xs.length ≤ 1000000) :
    Calls Try.prog 51 #[v] w fun e w' => (∃ v', e = .returned v' ∧ w'.ownsRow w.heap.size 58 1 v' xs.length xs) ∧ Below w.heap.size w w' := by
  obtain ⟨i0, hi, hz0, hz1, hz2⟩ := info_parts info52
  have hv0 := hv.lt
  obtain ⟨A, cap, rfl, hcap, hmax, _⟩ := hv
  have heq := fun (w : World) (A : Option Addr) (n c : Nat) => Lib.run_eql_slice_nil (P := Try.prog) w 55 58 A n c 0 0 Try.underlying55
  obtain ⟨n, hn⟩ : ∃ n, n = xs.length := ⟨_, rfl⟩
  rw [← hn] at hl hcap hv0 ⊢
  have HN := Lib.hid hn
  clear hn
  cases A with
  | none =>
    have HX := Lib.hid hv0.nil_of
    go_enter Try.func51, Try.ntmps51
    go_wp2_with fail
    go_ret
    exact ⟨⟨_, rfl, by rw [HN.out, HX.out]; exact World.ownsRow_nil _ _ _ _⟩, Below.refl _ _⟩
  | some ad =>
    have hc1 := (hv0.keep (((Keep.refl _ w).alloc (fun k hk => hk.2) (.cells #[] 58)))).cells
    have HC := Lib.hid hc1
    have HL : Hid ((xs.map id).length = n * 1) := by rw [List.length_map, HN.out]; show _ = _; omega
    clear hc1 hv0
    go_enter Try.func51, Try.ntmps51
    go_wp2_with (at_builtin; refine wpList_append_own _ rfl _ _ 55 rfl w.heap.size 58 i0 (.slice none 0 0) 1 24 Try.underlying55 hi hz0 hz1 hz2 rfl (by decide) _ 0 [] rfl (World.ownsRow_made w #[] 0 (Nat.le_refl _) (by decide) rfl) ad n cap (xs.map id) rfl HL.out HC.out (by rw [List.map_id]; exact hone) (by unfold maxLen; omega) (by omega) (by simp) ?_; intro v' w1 hown' hgrow _)
    go_ret
    have hown'' : w1.ownsRow w.heap.size 58 1 v' n xs := by simpa using hown'
    exact ⟨⟨_, rfl, hown''⟩, ((Below.refl _ w).alloc (Nat.le_refl _) _).grown hgrow (by simp) (fun k hk => by simp [Value.ownBlock, Act.eval] at hk; omega)⟩

theorem ownsRow_slice {w : World} {base : Nat} {e : TypeId} {size : Nat} {v : Value} {n : Nat} {xs : List Value} (h : w.ownsRow base e size v n xs) : ∃ A c, v = .slice A n c := by
  rcases h.2 with ⟨rfl, rfl⟩ | ⟨g, cap, cur, rfl, _⟩
  · exact ⟨_, _, rfl⟩
  · exact ⟨_, _, rfl⟩
theorem ownsRow_at {w : World} {base : Nat} {e : TypeId} {A : Option Addr} {n c : Nat} {xs : List Value} (h : w.ownsRow base e 1 (.slice A n c) n xs) (k : Nat) (hk : k < n) :
    ∃ g u, A = some ⟨g, 0, none⟩ ∧ base ≤ g ∧ g < w.heap.size ∧ xs[k]? = some u ∧ w.cell? ⟨g, k, none⟩ = some u ∧ w.frozen? ⟨g, k, none⟩ = false := by
  have hl := h.1
  rcases h.2 with ⟨he, h0⟩ | ⟨g, cap, cur, he, hb, hg, _⟩
  · omega
  · simp only [Value.slice.injEq] at he
    obtain ⟨rfl, _, rfl⟩ := he
    have hx : xs[k]? = some (xs[k]'(by omega)) := List.getElem?_eq_getElem (by omega)
    refine ⟨g, _, rfl, hb, (Array.getElem?_eq_some_iff.1 hg).1, hx, ?_, h.frozenAt k⟩
    rw [h.cellAt k (by omega), hx]
/-- Slices of the call's own, of which each owns a list of strings. -/
def Own2 (w : World) (B : Nat) (vf : Value) (xss : List (List ByteArray)) : Prop :=
  ∃ vs, w.ownsRow B 58 1 vf xss.length vs ∧ ∀ (i : Nat) (x : List ByteArray), xss[i]? = some x → ∃ u : Value, vs[i]? = some u ∧ w.ownsRow B 9 1 u x.length (x.map Value.string) ∧ (u.ownBlock = none ∨ u.ownBlock ≠ vf.ownBlock)

theorem ownsRow_kept_below {w w' : World} {base r : Nat} {e : TypeId} {size : Nat} {v : Value} {n : Nat} {xs : List Value} (h : w.ownsRow base e size v n xs) (hg : w.grownBy w' (some r)) (hr : r < base) : w'.ownsRow base e size v n xs := by
  refine h.kept hg ?_
  by_cases h0 : v.ownBlock = none
  · exact .inl h0
  · obtain ⟨b, hb⟩ := Option.ne_none_iff_exists'.1 h0
    refine .inr (fun e => ?_)
    have := (h.lt b hb).1
    rw [hb] at e
    have := Option.some.inj e
    omega
/-- What holds at the head of a round of plant.copied. -/
def CopRel (w : World) (S : Nat → Prop) (nm : ByteArray) (kd a : Int) (A : Option Addr) (n c : Nat) (xss : List (List ByteArray)) (k : Nat) (wr : World) : Prop :=
  ∃ cs : List Value, wr.ownsRow (w.heap.size + 2) 58 1 (.slice A n c) n cs ∧
      wr.heap[w.heap.size]? = some (.cells #[Value.string nm, Value.int IntKind.i64 kd, Value.int IntKind.i64 a, .slice A n c] 57) ∧
      wr.heap[w.heap.size + 1]? = some (.cells #[Value.string ⟨#[]⟩, Value.int IntKind.i64 0, Value.int IntKind.i64 0, Value.slice none 0 0] 57) ∧ Below w.heap.size w wr ∧ w.heap.size + 2 ≤ wr.heap.size ∧
      ∀ (i : Nat) (x : List ByteArray), xss[i]? = some x → ∃ u : Value, cs[i]? = some u ∧ (k ≤ i → Rd .string wr (fun b => S b ∧ b < w.heap.size) u x) ∧
        (i < k → wr.ownsRow (w.heap.size + 2) 9 1 u x.length (x.map Value.string) ∧ (u.ownBlock = none ∨ u.ownBlock ≠ (Value.slice A n c).ownBlock))
theorem ownsRow_mono {w : World} {base base' : Nat} {e : TypeId} {size : Nat} {v : Value} {n : Nat} {xs : List Value} (h : w.ownsRow base e size v n xs) (hb : base' ≤ base) : w.ownsRow base' e size v n xs := by
  refine ⟨h.1, h.2.imp id ?_⟩
  rintro ⟨g, cap, cur, e1, e2, e3⟩
  exact ⟨g, cap, cur, e1, by omega, e3⟩
theorem CopRel.step {w wr w2 : World} {S : Nat → Prop} {nm : ByteArray} {kd a : Int} {g n c : Nat} {xss : List (List ByteArray)} {k : Nat} {x : List ByteArray} {A2 : Option Addr} {c2 : Nat}
    (h : CopRel w S nm kd a (some ⟨g, 0, none⟩) n c xss k wr) (hk : k < n) (hg : w.heap.size + 2 ≤ g) (hg2 : g < wr.heap.size) (hx : xss[k]? = some x) (hb : Below wr.heap.size wr w2)
    (hown2 : w2.ownsRow wr.heap.size 9 1 (.slice A2 x.length c2) x.length (x.map Value.string)) :
    CopRel w S nm kd a (some ⟨g, 0, none⟩) n c xss (k + 1) (w2.setCell ⟨g, k, none⟩ (.slice A2 x.length c2)) := by
  obtain ⟨cs, h1, h2, h3, h4, h5, h6⟩ := h
  have hlen : cs.length = n := by have := h1.1; simpa using this
  have k1 : Keep (fun b => b < wr.heap.size ∧ b ≠ g) wr (w2.setCell ⟨g, k, none⟩ (.slice A2 x.length c2)) := ((Keep.of_below hb).mono (fun b hb => hb.1)).setCell (fun h => h.2 rfl) _
  have gr : wr.grownBy w2 none := ⟨hb.os, hb.tape, hb.output, hb.size, fun b hb' _ => hb.block b hb'⟩
  have o1 := (h1.kept gr (.inr (by simp [Value.ownBlock]))).stored k (.slice A2 x.length c2)
  have hA2 : (Value.slice A2 x.length c2).ownBlock = none ∨ (Value.slice A2 x.length c2).ownBlock ≠ some g := by
    cases A2 with
    | none => exact .inl rfl
    | some ad => exact .inr (fun e => by have := (hown2.lt _ rfl).1; simp [Value.ownBlock] at e; omega)
  refine ⟨cs.set k (.slice A2 x.length c2), o1.1, (k1.block _ ⟨by omega, by omega⟩).trans h2, (k1.block _ ⟨by omega, by omega⟩).trans h3,
    h4.trans ((Keep.below (k1.mono (S' := (· < w.heap.size)) (fun b hb => ⟨by omega, by omega⟩)))), by have := k1.size; omega, fun i y hy => ?_⟩
  by_cases hi : i = k
  · subst hi
    obtain rfl := Option.some.inj (hx.symm.trans hy)
    refine ⟨.slice A2 x.length c2, by rw [List.getElem?_set_self (by omega)], fun h => by omega, fun _ => ⟨ownsRow_mono (hown2.kept o1.2 ?_) (by omega), ?_⟩⟩
    · exact hA2
    · simpa [Value.ownBlock] using hA2
  · obtain ⟨u, hu, hr, ho⟩ := h6 i y hy
    refine ⟨u, by rw [List.getElem?_set_ne (by omega)]; exact hu, fun h => ?_, fun h => ?_⟩
    · exact (hr (by omega)).keep (k1.mono (fun b hb => ⟨by have := hb.2; omega, by have := hb.2; omega⟩))
    · obtain ⟨p1, p2⟩ := ho (by omega)
      refine ⟨(p1.kept gr (Classical.em _)).kept o1.2 (by simpa [Value.ownBlock] using p2), p2⟩

set_option maxRecDepth 100000 in
set_option maxHeartbeats 1000000 in
theorem copied_any (nm : ByteArray) (kd a : Int) (vf : Value) (xss : List (List ByteArray)) (S : Nat → Prop) (w : World) (hv : Rd2 w S vf xss) (hl : xss.length ≤ 1000) (hl2 : ∀ x ∈ xss, x.length ≤ 1000) :
    Calls Try.prog 33 #[.agg #[.string nm, .int .i64 kd, .int .i64 a, vf]] w fun e w' =>
      (∃ vf', e = .returned (.agg #[.string nm, .int .i64 kd, .int .i64 a, vf']) ∧ Own2 w' w.heap.size vf' xss) ∧ Below w.heap.size w w' := by
  obtain ⟨vs, hvs, hlen, hin⟩ := hv
  have hone : ∀ u ∈ vs, u.oneCell' = true := fun u hu => by
    obtain ⟨i, hi, rfl⟩ := List.mem_iff_getElem.1 hu
    obtain ⟨u, h1, h2⟩ := hin i xss[i] (List.getElem?_eq_getElem (by omega))
    rw [List.getElem?_eq_getElem hi] at h1
    obtain rfl := Option.some.inj h1
    obtain ⟨A, c, he, _⟩ := h2
    rw [he]; rfl
  have HONE := Lib.hid hone
  have HIN := Lib.hid hin
  have HLEN := Lib.hid hlen
  have HL2 := Lib.hid hl2
  clear hone hin hlen hl2
  have hvl := hvs.lt
  go_enter Try.func33, Try.ntmps33
  go_wp2_with fail
  obtain ⟨W0, hW0⟩ : ∃ W0, W0 = ((w.alloc (Obj.cells #[Value.string nm, Value.int IntKind.i64 kd, Value.int IntKind.i64 a, vf] 57)).alloc (Obj.cells #[Value.string ⟨#[]⟩, Value.int IntKind.i64 0, Value.int IntKind.i64 0, Value.slice none 0 0] 57)) := ⟨_, rfl⟩
  rw [← hW0]
  have hsz0 : W0.heap.size = w.heap.size + 2 := by rw [hW0]; simp
  have hbl0 : Below w.heap.size w W0 := by rw [hW0]; exact ((Below.refl _ _).alloc (Nat.le_refl _) _).alloc (by simp) _
  have hk1 : W0.heap[w.heap.size]? = some (.cells #[Value.string nm, Value.int IntKind.i64 kd, Value.int IntKind.i64 a, vf] 57) := by
    rw [hW0, Below.heap_alloc _ _ _ (by simp)]; exact heap_alloc_new w _
  have hk2 : W0.heap[w.heap.size + 1]? = some (.cells #[Value.string ⟨#[]⟩, Value.int IntKind.i64 0, Value.int IntKind.i64 0, Value.slice none 0 0] 57) := by
    rw [hW0]; have := heap_alloc_new (w.alloc (Obj.cells #[Value.string nm, Value.int IntKind.i64 kd, Value.int IntKind.i64 a, vf] 57)) (Obj.cells #[Value.string ⟨#[]⟩, Value.int IntKind.i64 0, Value.int IntKind.i64 0, Value.slice none 0 0] 57); simpa using this
  refine (clone95_own vf vs S W0 (hvs.below hbl0) HONE.out (by have := HLEN.out; omega)).mono ?_
  rintro e w1 ⟨⟨vf', rfl, hown⟩, hb1⟩
  rw [HLEN.out, hsz0] at hown
  obtain ⟨A', c', rfl⟩ := ownsRow_slice hown
  obtain ⟨n, hn⟩ : ∃ n, n = xss.length := ⟨_, rfl⟩
  rw [← hn] at hown hl ⊢
  have HN := Lib.hid hn
  clear hn
  have hm1 : w1.heap[w.heap.size]? = some (.cells #[Value.string nm, Value.int IntKind.i64 kd, Value.int IntKind.i64 a, vf] 57) := (hb1.block _ (by omega)).trans hk1
  have hm2 : w1.heap[w.heap.size + 1]? = some (.cells #[Value.string ⟨#[]⟩, Value.int IntKind.i64 0, Value.int IntKind.i64 0, Value.slice none 0 0] 57) := (hb1.block _ (by omega)).trans hk2
  have hbl1 : Below w.heap.size w w1 := hbl0.trans (hb1.mono (by omega))
  clear hW0 hbl0 hk1 hk2 hb1
  have hc3 : w1.cell? ⟨w.heap.size, 3, none⟩ = some vf := (cell_of_row w1 _ 3 _ _ _ hm1)
  have hf3 : w1.frozen? ⟨w.heap.size, 3, none⟩ = false := frozen_of_row w1 _ 3 _ _ hm1
  go_wp2_with fail
  clear hc3 hf3
  go_loopw [12] (fun i wr => ∃ k : Nat, k ≤ n ∧ i = .int .i64 k ∧ CopRel w S nm kd a A' n c' xss k wr) (fun i _ => n - (intOf i).toNat)
  case atStart =>
    have k1 : Keep (fun b => b < w1.heap.size ∧ b ≠ w.heap.size) w1 (w1.setCell ⟨w.heap.size, 3, none⟩ (.slice A' n c')) := (Keep.refl _ _).setCell (fun h => h.2 rfl) _
    have hlt1 : w.heap.size + 2 ≤ w1.heap.size := by have := (Array.getElem?_eq_some_iff.1 hm2).1; omega
    refine ⟨0, Nat.zero_le _, rfl, vs, ownsRow_setCell_below hown (by simp) _, ?_, (k1.block _ ⟨by omega, by omega⟩).trans hm2, hbl1.setCell (by simp) _, by simpa using hlt1, fun i x hx => ?_⟩
    · exact heap_setCell_same w1 w.heap.size 3 _ 57 _ hm1
    · obtain ⟨u, hu, hr⟩ := HIN.out i x hx
      refine ⟨u, hu, fun _ => ?_, fun h => by omega⟩
      exact ((hr.lt.keep ((Keep.of_below hbl1).mono fun b hb => hb.2)).keep (k1.mono fun b hb => ⟨by have := hb.2; omega, by have := hb.2; omega⟩))
  case round =>
    obtain ⟨k, hk, rfl, hrel⟩ := hrel
    have HR := Lib.hid hrel
    obtain ⟨cs, hown, hm1, hm2, hbl, hsz, hc⟩ := hrel
    have HC := Lib.hid hc
    clear hc
    by_cases hlt : k < n
    · obtain ⟨g, u, rfl, hg1, hg2, hu, hcu, hfu⟩ := ownsRow_at hown k hlt
      obtain ⟨x, hx⟩ : ∃ x, xss[k]? = some x := ⟨xss[k]'(by have := HN.out; omega), List.getElem?_eq_getElem (by have := HN.out; omega)⟩
      obtain ⟨u', hu', hold, _⟩ := HC.out k x hx
      obtain rfl : u = u' := Option.some.inj (hu.symm.trans hu')
      have hold := hold (Nat.le_refl _)
      have hxl : x.length ≤ 1000000 := by have := HL2.out x (mem_of_get? hx); omega
      have HX := Lib.hid hx
      have HU := Lib.hid hu
      have HXL := Lib.hid hxl
      have HCON := fun w' (h : Keep (fun b => b < wr.heap.size) wr w') => clone96_own u x (fun b => S b ∧ b < w.heap.size) w' (hold.below h.below) hxl
      have HCO := Lib.hid HCON
      clear hu' hx hu hxl HCON hold
      have hc3 : wr.cell? ⟨w.heap.size, 3, none⟩ = some (.slice (some ⟨g, 0, none⟩) n c') := (cell_of_row wr _ 3 _ _ _ hm1)
      go_wp2_with fail
      go_region_with (go_at_call 52; refine (HCO.out _ (Keep.drew _ _)).mono ?_; rintro e w2 ⟨⟨v2, rfl, hown2⟩, hb2⟩; obtain ⟨A2, c2, rfl⟩ := ownsRow_slice hown2; have hc4 : w2.cell? ⟨w.heap.size, 3, none⟩ = some (.slice (some ⟨g, 0, none⟩) n c') := (hb2.cell (p := ⟨w.heap.size, 3, none⟩) (by simp; omega)).trans hc3; have hcu2 : w2.cell? ⟨g, k, none⟩ = some u := (hb2.cell (p := ⟨g, k, none⟩) (by simp; omega)).trans hcu; have hfu2 : w2.frozen? ⟨g, k, none⟩ = false := (hb2.frozen (p := ⟨g, k, none⟩) (by simp; omega)).trans hfu)
      all_goals
        have hst := HR.out.step hlt hg1 hg2 HX.out (w2 := w2) (((Below.refl _ wr).drew).trans hb2) hown2
        clear hown2 hb2 hc4 hcu2 hfu2 hc3 hm1 hm2 hown hcu hfu
        go_wp2_with fail
        go_roundw
        case rel => exact ⟨k + 1, by omega, by go_num, hst⟩
        case measure => simp [intOf]; omega
    · have hkn : k = n := by omega
      subst hkn
      have hcell : ∀ j, wr.cell? ⟨w.heap.size, j, none⟩ = #[Value.string nm, Value.int IntKind.i64 kd, Value.int IntKind.i64 a, .slice A' k c'][j]? := fun j => cell_of_row wr _ j _ _ _ hm1
      have hcell2 : ∀ j, wr.cell? ⟨w.heap.size + 1, j, none⟩ = #[Value.string ⟨#[]⟩, Value.int IntKind.i64 0, Value.int IntKind.i64 0, Value.slice none 0 0][j]? := fun j => cell_of_row wr _ j _ _ _ hm2
      have hfr2 : ∀ j, wr.frozen? ⟨w.heap.size + 1, j, none⟩ = false := fun j => frozen_of_row wr _ j _ _ hm2
      go_wp2_with fail
      obtain ⟨w4, hw4⟩ : ∃ w4, w4 = ((((wr.setCell ⟨w.heap.size + 1, 0, none⟩ (Value.string nm)).setCell ⟨w.heap.size + 1, 1, none⟩ (Value.int IntKind.i64 kd)).setCell ⟨w.heap.size + 1, 2, none⟩ (Value.int IntKind.i64 a)).setCell ⟨w.heap.size + 1, 3, none⟩ (Value.slice A' k c')) := ⟨_, rfl⟩
      rw [← hw4]
      have hm4 : w4.heap[w.heap.size + 1]? = some (.cells #[Value.string nm, Value.int IntKind.i64 kd, Value.int IntKind.i64 a, .slice A' k c'] 57) := by
        rw [hw4]
        exact heap_setCell_same _ _ 3 _ 57 _ (heap_setCell_same _ _ 2 _ 57 _ (heap_setCell_same _ _ 1 _ 57 _ (heap_setCell_same wr _ 0 _ 57 _ hm2)))
      have q0 : w4.cell? ⟨w.heap.size + 1, 0, none⟩ = some (.string nm) := cell_of_row w4 _ 0 _ _ _ hm4
      have q1 : w4.cell? ⟨w.heap.size + 1, 1, none⟩ = some (.int .i64 kd) := cell_of_row w4 _ 1 _ _ _ hm4
      have q2 : w4.cell? ⟨w.heap.size + 1, 2, none⟩ = some (.int .i64 a) := cell_of_row w4 _ 2 _ _ _ hm4
      have q3 : w4.cell? ⟨w.heap.size + 1, 3, none⟩ = some (.slice A' k c') := cell_of_row w4 _ 3 _ _ _ hm4
      have k4 : Keep (fun b => b < wr.heap.size ∧ b ≠ w.heap.size + 1) wr w4 := by
        rw [hw4]
        exact (((((Keep.refl _ wr).setCell (fun h => h.2 rfl) _).setCell (fun h => h.2 rfl) _).setCell (fun h => h.2 rfl) _).setCell (fun h => h.2 rfl) _)
      refine bodyPost_ret (v := .agg #[Value.string nm, Value.int IntKind.i64 kd, Value.int IntKind.i64 a, .slice A' k c']) (by simp [results, Try.results33, go_sem, q0, q1, q2, q3]) rfl ⟨⟨_, rfl, ?_⟩, ?_⟩
      · have gr : wr.grownBy w4 (some (w.heap.size + 1)) := ⟨k4.os, k4.tape, k4.output, k4.size, fun b hb hne => k4.block b ⟨hb, fun e => hne (by rw [e])⟩⟩
        have own_keep : ∀ {e : TypeId} {v : Value} {n : Nat} {xs : List Value}, wr.ownsRow (w.heap.size + 2) e 1 v n xs → w4.ownsRow (w.heap.size + 2) e 1 v n xs := fun {e v n xs} h => ownsRow_kept_below h gr (by omega)
        refine ⟨cs, by rw [← HN.out]; exact ownsRow_mono (own_keep hown) (by omega), fun i x hx => ?_⟩
        obtain ⟨u, hu, _, ho⟩ := HC.out i x hx
        obtain ⟨p1, p2⟩ := ho (by have := (List.getElem?_eq_some_iff.1 hx).1; have := HN.out; omega)
        exact ⟨u, hu, ownsRow_mono (own_keep p1) (by omega), p2⟩
      · exact hbl.trans (Keep.below (k4.mono (S' := (· < w.heap.size)) (fun b hb => ⟨by omega, by omega⟩)))
end Go.Proofs.Ytogccnngdfancaa
