/- The walk of the statements' copied. -/
import Derived.Test.YtlanephpmoajiaaFew
import Derived.Test.YtlanephpmoajiaaBookMid
import Derived.Test.YtlanephpmoajiaaAppendRd
namespace Go.Proofs.Ytlanephpmoajiaa
open Go.RowKit

/-- What the loop of copied has made so far. -/
def CopO (w wr : World) (o : Value) (xss : List (List ByteArray)) (k : Nat) : Prop :=
  ∃ us : List Value, wr.ownsRow w.heap.size 52 1 o k us ∧ ∀ (i : Nat) (x : List ByteArray), i < k → xss[i]? = some x → ∃ u : Value, us[i]? = some u ∧ Rd .string wr (fun b => w.heap.size ≤ b ∧ o.ownBlock ≠ some b) u x
theorem CopO.start (w : World) (xss : List (List ByteArray)) : CopO w w (.slice none 0 0) xss 0 := ⟨[], World.ownsRow_nil _ _ _ _, fun i x h => absurd h (by omega)⟩
theorem ownBlock_lt {w : World} {base : Nat} {e : TypeId} {size : Nat} {v : Value} {n : Nat} {xs : List Value} (h : w.ownsRow base e size v n xs) : ∀ b, v.ownBlock = some b → base ≤ b ∧ b < w.heap.size := fun b hb => h.lt b hb
theorem CopO.step {w wr w1 w2 : World} {o v' o' : Value} {xss : List (List ByteArray)} {k : Nat} {x : List ByteArray} {us : List Value} {ob : Obj} (hx : xss[k]? = some x) (hbw : w.heap.size ≤ wr.heap.size)
    (h1 : wr.ownsRow w.heap.size 52 1 o k us) (h2 : ∀ (i : Nat) (x : List ByteArray), i < k → xss[i]? = some x → ∃ u : Value, us[i]? = some u ∧ Rd .string wr (fun b => w.heap.size ≤ b ∧ o.ownBlock ≠ some b) u x)
    (hb : Below wr.heap.size wr w1) (hv : w1.ownsRow wr.heap.size 9 1 v' x.length (x.map Value.string)) (ho : w2.ownsRow w.heap.size 52 1 o' (k + 1) (us ++ [v'])) (hg : (w1.alloc ob).grownBy w2 o.ownBlock)
    (hfr : ∀ b, o'.ownBlock = some b → o.ownBlock = some b ∨ (w1.alloc ob).heap.size ≤ b) : CopO w w2 o' xss (k + 1) := by
  have hs1 := hb.size
  have hus : us.length = k := by have := h1.1; simpa using this
  have hob := ownBlock_lt h1
  refine ⟨us ++ [v'], ho, fun i y hi hy => ?_⟩
  rcases Nat.lt_or_ge i k with hik | hik
  · obtain ⟨u, hu, hr⟩ := h2 i y hik hy
    refine ⟨u, by rw [List.getElem?_append_left (by omega)]; exact hu, (hr.lt.keep (w' := w2) ⟨?_, ?_, ?_, ?_, fun b hbb => ?_⟩).mono fun b hbb => ⟨hbb.1.1, fun e => ?_⟩⟩
    · exact hg.os.trans hb.os
    · exact hg.tape.trans hb.tape
    · exact hg.output.trans hb.output
    · have := hg.size; simp at this; omega
    · rw [hg.block b (by simp; omega) (fun e => hbb.1.2 e.symm), Below.heap_alloc _ _ _ (by omega)]
      exact hb.block b hbb.2
    · rcases hfr b e with h | h
      · exact hbb.1.2 h
      · simp at h; omega
  · obtain rfl : i = k := by omega
    obtain rfl := Option.some.inj (hx.symm.trans hy)
    refine ⟨v', by rw [List.getElem?_append_right (by omega)]; simp [hus], ((Rd.of_own hv).lt.keep (w' := w2) ⟨hg.os, hg.tape, hg.output, by have := hg.size; simp at this; omega, fun b hbb => ?_⟩).mono fun b hbb => ⟨by omega, fun e => ?_⟩⟩
    · rw [hg.block b (by simp; omega) (fun e => by have := hob b e.symm; omega), Below.heap_alloc _ _ _ (by omega)]
    · rcases hfr b e with h | h
      · have := hob b h; omega
      · simp at h; omega

def CopPost (w : World) (xss : List (List ByteArray)) (e : Ending) (w' : World) : Prop := (∃ v', e = .returned v' ∧ Rd2 w' (w.heap.size ≤ ·) v' xss) ∧ Below w.heap.size w w'
set_option maxRecDepth 100000 in
set_option maxHeartbeats 2000000 in
theorem copied58_any (v : Value) (xss : List (List ByteArray)) (S : Nat → Prop) (w : World) (hv : Rd2 w S v xss) (hl : xss.length ≤ 1000) (hl2 : ∀ x ∈ xss, x.length ≤ 1000) :
    Calls Try.prog 58 #[v] w (CopPost w xss) := by
  obtain ⟨i0, hi, hz0, hz1, hz2⟩ := info_parts info9
  obtain ⟨j0, hj, hy0, hy1, hy2⟩ := info_parts info52
  obtain ⟨vs, hvs, hlen, hin⟩ := hv.lt
  obtain ⟨A, n, cap, rfl, hn, hcap, hmax, hc⟩ := hvs.open_
  have HC := Lib.hid hc
  have HN := Lib.hid hn
  have HLEN := Lib.hid hlen
  have HIN := Lib.hid hin
  have HL2 := Lib.hid hl2
  have hn1000 : n ≤ 1000 := by omega
  clear hc hvs hv hn hlen hin hl hl2
  go_enter Try.func58, Try.ntmps58
  go_wp2_with fail
  go_loopw [3, 8] (fun o iv wr => ∃ k : Nat, k ≤ n ∧ iv = .int .i64 k ∧ CopO w wr o xss k ∧ Below w.heap.size w wr) (fun _ iv _ => n - (intOf iv).toNat)
  case atStart => exact ⟨0, Nat.zero_le _, rfl, CopO.start _ _, Below.refl _ _⟩
  case round =>
    obtain ⟨k, hk, rfl, ⟨us, hown, hus⟩, hbel⟩ := hrel
    by_cases hlt : k < n
    · obtain ⟨b, off, u, rfl, ⟨_, hbw⟩, hu, hcell⟩ := HC.out k hlt
      obtain ⟨c, hcc⟩ : ∃ c, xss[k]? = some c := ⟨xss[k]'(by have := HN.out; have := HLEN.out; omega), List.getElem?_eq_getElem _⟩
      obtain ⟨u', hu', hrd⟩ := HIN.out k c hcc
      obtain rfl := Option.some.inj (hu.symm.trans hu')
      have hcell' : wr.cell? ⟨b, off + k, none⟩ = some u := (hbel.cell (p := ⟨b, off + k, none⟩) hbw).trans hcell
      have hr1 : Rd .string (wr.alloc (.cells #[] 9)) (fun _ => True) u c := (hrd.keep (((Keep.of_below hbel).mono (fun b hb => hb.2)).alloc (fun b hb => by have := hbel.size; omega) _)).mono fun _ _ => trivial
      have hcl : c.length ≤ 1000 := HL2.out c (mem_of_get? hcc)
      have HCC := Lib.hid hcc
      have HUS := Lib.hid hus
      have hszw := hbel.size
      clear hu hu' hcc hrd hcell hus
      go_wp2_with (at_builtin; first | (refine wpList_append_rd (f := Value.string) rfl _ _ 52 rfl wr.heap.size 9 i0 (.string ⟨#[]⟩) 16 Try.underlying52 hi hz0 hz1 hz2 rfl (.slice (some ⟨wr.heap.size, 0, none⟩) 0 0) 0 [] rfl (World.ownsRow_made wr #[] 0 (Nat.le_refl _) (by decide) rfl) u (fun _ => True) c rfl hr1 (fun u hu => by obtain ⟨x, _, rfl⟩ := List.mem_map.1 hu; rfl) (by unfold maxLen; omega) (by omega) (by simp) ?_; intro v' w1 hown1 hg1 _; rw [Nat.zero_add, List.nil_append] at hown1; have hb1 : Below wr.heap.size wr w1 := ((Below.refl _ wr).alloc (Nat.le_refl _) _).grown hg1 (by simp) (fun k hk => by simp [Value.ownBlock] at hk; omega); have HO1 := Lib.hid hown1; obtain ⟨A1, c1, rfl⟩ := ownsRow_slice hown1; have hown2 := (hown.kept (w' := w1) (row := none) ⟨hb1.os, hb1.tape, hb1.output, hb1.size, fun k hk _ => hb1.block k hk⟩ (Classical.em _)); have hsz1 := hb1.size) | (refine wpList_append_fresh rfl _ _ 23 rfl w.heap.size 52 j0 (.slice none 0 0) 1 24 Try.underlying23 hj hy0 hy1 hy2 rfl (by decide) _ k us rfl (hown2.alloc _) ⟨w1.heap.size, 0, none⟩ 1 1 [.slice A1 c.length c1] rfl rfl (cell_one_new _ _ _) (fun u hu => by simp at hu; subst hu; rfl) (by unfold maxLen; omega) (by omega) (by simp; omega) ?_; intro o' w2 hown3 hg3 hfr3))
      have hst := CopO.step HCC.out hszw hown HUS.out hb1 HO1.out hown3 hg3 hfr3
      have hb3 : Below w.heap.size w w2 := ((hbel.trans (hb1.mono hszw)).alloc (by omega) _).grown hg3 (by simp; omega) (fun k hk => (ownBlock_lt hown2 k hk).1)
      go_roundw
      case rel => exact ⟨k + 1, by omega, by go_num, hst, hb3⟩
      case measure => simp [intOf]; omega
    · have hkn : k = n := by omega
      have HO := Lib.hid hown
      have HUS := Lib.hid hus
      clear hown hus
      go_wp2_with fail
      go_ret
      have h1 := HO.out.1
      have h2 := HN.out
      have h3 := HLEN.out
      refine ⟨⟨_, rfl, us, ?_, by simp at h1; omega, fun i x hx => ?_⟩, hbel⟩
      · have := HO.out
        have h4 : k = us.length := by simpa using h1.symm
        exact Rd.of_own (n := k) (by rw [List.map_id]; exact this)
      · obtain ⟨u, hu, hr⟩ := HUS.out i x (by have := (List.getElem?_eq_some_iff.1 hx).1; omega) hx
        exact ⟨u, hu, hr.mono fun b hb => hb.1⟩
end Go.Proofs.Ytlanephpmoajiaa
