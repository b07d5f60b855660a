/- The walk of list. -/
import Derived.Test.YtfondpakbiagjaaGreatDoorHPar
namespace Go.Proofs.YtfondpakbiagjaaGreatDoor
open Go.RowKit Go.Lib
set_option linter.unusedVariables false
set_option linter.unusedSimpArgs false
set_option maxRecDepth 100000
set_option maxHeartbeats 4000000
theorem infoS : (Tryz.prog.info? 9).map (fun i => (i.zero, i.size, i.bytes)) = some (some (.string ⟨#[]⟩), 1, 16) := by kernel_rfl
/-- A row of strings of one's own. -/
def OwnS (w : World) (B : Nat) (v : Value) (xs : List ByteArray) : Prop := w.ownsRow B 9 1 v xs.length (xs.map Value.string)
theorem OwnS.slice {w : World} {B : Nat} {v : Value} {xs : List ByteArray} (h : OwnS w B v xs) : ∃ A c, v = .slice A xs.length c := ownsRow_slice h
theorem OwnS.nil (w : World) (B : Nat) : OwnS w B (.slice none 0 0) [] := World.ownsRow_nil w B 9 1
theorem OwnS.stay {w w' : World} {B : Nat} {v : Value} {xs : List ByteArray} (h : OwnS w B v xs) (hb : Below w.heap.size w w') : OwnS w' B v xs :=
  World.ownsRow.kept h ⟨hb.os, hb.tape, hb.output, hb.size, fun k hk _ => hb.block k hk⟩ (Classical.em _)
theorem OwnS.rd {w : World} {B : Nat} {v : Value} {xs : List ByteArray} (h : OwnS w B v xs) : Rd Value.string w (fun _ => True) v xs := (Rd.of_own (f := Value.string) (xs := xs) h).mono fun _ _ => trivial
theorem wpList_pushS {w w1 : World} {ops : Array Oper} {rest : List Oper} {o : Oper} {a : Act} {Q : Exit → Act → World → Prop} {B : Nat} {v : Value} {xs : List ByteArray} {z : ByteArray} {n : Nat} (hgd : o.guard = none) (s y : Operand)
    (ho : o.op = .call { callee := .builtin .append, args := #[s, y], argTypes := #[172, 172] }) (hs : a.eval s = v) (hw : w = w1.alloc (.cells #[.string z] 9)) {p c : Nat} (hp : p = w1.heap.size) (hy : a.eval y = .slice (some ⟨p, 0, none⟩) 1 c)
    (hn : xs.length = n) (hown : OwnS w1 B v xs) (hl : n ≤ 100000) (hB : B ≤ w1.heap.size)
    (h : ∀ A c w', OwnS w' B (.slice A (n + 1) c) (xs ++ [z]) → Gr w1 w' v (.slice A (n + 1) c) → wpList Tryz.prog ops Q rest (a.put o.dst (.slice A (n + 1) c)) w') : wpList Tryz.prog ops Q (o :: rest) a w := by
  subst hw hp hn
  obtain ⟨i0, hi0, hz0, hz1, hz2⟩ := info_parts infoS
  have hown1 := World.ownsRow.alloc hown (.cells #[.string z] 9)
  refine wpList_append_fresh hgd s y 172 ho B 9 i0 (.string ⟨#[]⟩) 1 16 Tryz.underlying172 hi0 hz0 hz1 hz2 rfl (by decide) v xs.length (xs.map Value.string) hs hown1 ⟨w1.heap.size, 0, none⟩ 1 c [.string z] hy rfl
    (cells_new w1 #[.string z] 9 (0, 0)) (fun u hu => by rw [List.mem_singleton.1 hu]; rfl) (by unfold maxLen; omega) (by omega) (by simp; omega) fun v' w' h2 h3 h4 => ?_
  obtain ⟨A, c', rfl⟩ := ownsRow_slice h2
  refine h A c' w' (by unfold OwnS; rw [List.length_append, List.map_append]; exact h2) (Gr.alloc (o := .cells #[.string z] 9) ⟨h3, h4⟩)
theorem list_any (b n c : Nat) (zs : List Int) (w : World) (f : Int → ByteArray) (out : ByteArray) (hn : n = zs.length) (hl : zs.length ≤ 100) (hz : ∀ (k : Nat) z, zs[k]? = some z → w.cell? ⟨b, k, none⟩ = some (.int .i64 z)) (hb : b < w.heap.size) (hg : Gl w)
    (hit : ∀ z ∈ zs, ∀ W, Gl W → Calls Tryz.prog 81 #[.int .i64 z] W fun e w' => e = .returned (.string (f z)) ∧ Below W.heap.size W w')
    (hjo : ∀ v W, Rd Value.string W (fun _ => True) v (zs.map f) → Calls Tryz.prog 99 #[v, .string spB] W fun e w' => e = .returned (.string out) ∧ Below W.heap.size W w') :
    Calls Tryz.prog 97 #[.slice (some ⟨b, 0, none⟩) n c] w fun e w' => e = .returned (.string out) ∧ Below w.heap.size w w' := by
  have HN := Lib.hid hn
  rw [← hn] at hl
  have HZ := Lib.hid hz
  have HB := Lib.hid hb
  have HG := Lib.hid hg
  have HIT := Lib.hid hit
  have HJO := Lib.hid hjo
  clear hn hz hb hg hit hjo
  unfold spB at HJO
  go_enter Tryz.func97, Tryz.ntmps97
  go_wp2_with fail
  go_loopw [3, 8] (fun vv iv wr => ∃ (k : Nat) (A' : Option Addr) (c' : Nat), k ≤ n ∧ vv = .slice A' k c' ∧ iv = .int .i64 (k : Int) ∧ Hid (OwnS wr w.heap.size (.slice A' k c') ((zs.map f).take k)) ∧ Hid (Below w.heap.size w wr)) (fun _ iv _ => n - (RowKit.intOf iv).toNat)
  case atStart => exact ⟨0, none, 0, Nat.zero_le _, rfl, rfl, OwnS.nil _ _, Below.refl _ _⟩
  case round =>
    obtain ⟨k, A', c', hk, rfl, rfl, HO, HW⟩ := hrel
    by_cases hlt : k < n
    · obtain ⟨z, hzk⟩ : ∃ z, zs[k]? = some z := ⟨_, List.getElem?_eq_getElem (by have := HN.out; omega)⟩
      have hc := (HW.out.cell (p := ⟨b, k, none⟩) HB.out).trans (HZ.out k z hzk)
      have HI := Lib.hid (HIT.out z (List.mem_of_getElem? hzk) wr (HG.out.on HW.out))
      have HTK : Hid ((zs.map f).take (k + 1) = (zs.map f).take k ++ [f z]) := take_snoc? (by rw [List.getElem?_map, hzk]; rfl)
      have hki : (k : Int) < (n : Int) := by omega
      have hk0 : (0 : Int) ≤ (k : Int) := by omega
      have hwk : IntKind.i64.wrap ((k : Int) + 1) = (k : Int) + 1 := IntWalk.i64_in _ (by omega)
      have HLK : Hid (((zs.map f).take k).length = k) := by show _ = _; rw [List.length_take, List.length_map, ← HN.out]; omega
      have HL : Hid (k ≤ 100000) := by show _ ≤ _; omega
      clear hzk
      go_wp2_with fail
      refine HI.out.mono ?_
      rintro e w2 ⟨rfl, j2⟩
      replace HO : Hid (OwnS w2 w.heap.size (.slice A' k c') ((zs.map f).take k)) := HO.out.stay j2
      replace HW := kU HW j2
      clear hc HI j2
      go_wp2_with (at_builtin; refine wpList_pushS rfl _ _ rfl rfl rfl rfl rfl HLK.out HO.out HL.out HW.out.size ?_; intro A5 c5 w5 HO5 HG5; replace HO5 := Lib.hid HO5; replace HG5 := Lib.hid HG5)
      go_roundw
      case rel => exact ⟨k + 1, A5, c5, by omega, rfl, by go_num, by rw [HTK.out]; exact HO5.out, HW.out.trans (HG5.out.below HW.out.size (fun q hq => (World.ownsRow.lt HO.out q hq).1))⟩
      case measure => simp [RowKit.intOf]; omega
    · obtain rfl : k = n := by omega
      have HF : Hid ((zs.map f).take k = zs.map f) := List.take_of_length_le (by rw [List.length_map, ← HN.out]; exact Nat.le_refl _)
      rw [HF.out] at HO
      have HJ := Lib.hid (HJO.out _ wr HO.out.rd)
      have hki : ¬ (k : Int) < (k : Int) := by omega
      go_wp2_with fail
      refine HJ.out.mono ?_
      rintro e w2 ⟨rfl, j2⟩
      replace HW := kU HW j2
      clear j2 HJ
      go_wp2_with fail
      go_ret
      exact ⟨rfl, HW.out⟩
end Go.Proofs.YtfondpakbiagjaaGreatDoor
