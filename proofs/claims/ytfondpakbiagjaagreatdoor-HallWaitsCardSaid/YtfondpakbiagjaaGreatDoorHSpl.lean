/- The walks of split and commands. -/
import Derived.Test.YtfondpakbiagjaaGreatDoorHNum
namespace Go.Proofs.YtfondpakbiagjaaGreatDoor
open Go.RowKit Go.Lib
set_option linter.unusedVariables false
set_option linter.unusedSimpArgs false
set_option maxRecDepth 100000
set_option maxHeartbeats 4000000
def spB : ByteArray := ⟨#[32]⟩
def lineB : ByteArray := ⟨#[98, 117, 105, 108, 100, 32, 49, 45, 51]⟩
def lineC : ByteArray := ⟨#[99, 117, 114, 101, 32, 49, 45, 50]⟩
def lineJ : ByteArray := ⟨#[106, 117, 100, 103, 101, 32, 49, 32, 48]⟩
def lineD : ByteArray := ⟨#[99, 117, 114, 101, 32, 49]⟩
def lineN : ByteArray := ⟨#[99, 111, 117, 110, 116]⟩
def wBuild : ByteArray := ⟨#[98, 117, 105, 108, 100]⟩
def wCure : ByteArray := ⟨#[99, 117, 114, 101]⟩
def wJudge : ByteArray := ⟨#[106, 117, 100, 103, 101]⟩
structure Words (s : ByteArray) (ws : List ByteArray) : Prop where
  n : Lib.countB s spB + 1 = ws.length
  w : Lib.splitB spB 0 (Lib.countB s spB) s = ws
  l : s.size ≤ 200
theorem words_B : Words lineB [wBuild, ⟨#[49, 45, 51]⟩] := ⟨by kernel_rfl, by kernel_rfl, by decide⟩
theorem words_C : Words lineC [wCure, ⟨#[49, 45, 50]⟩] := ⟨by kernel_rfl, by kernel_rfl, by decide⟩
theorem words_J : Words lineJ [wJudge, ⟨#[49]⟩, ⟨#[48]⟩] := ⟨by kernel_rfl, by kernel_rfl, by decide⟩
theorem words_D : Words lineD [wCure, ⟨#[49]⟩] := ⟨by kernel_rfl, by kernel_rfl, by decide⟩
theorem words_N : Words lineN [lineN] := ⟨by kernel_rfl, by kernel_rfl, by decide⟩
/-- A word without end of line. -/
def Wok (x : ByteArray) : Prop := x.toList.isEmpty = false ∧ decide (0 ≤ Lib.indexByte x.data.toList 10) = false
theorem wok_B : ∀ x ∈ [wBuild, (⟨#[49, 45, 51]⟩ : ByteArray)], Wok x := fun x hx => by
  simp only [List.mem_cons, List.not_mem_nil, or_false] at hx
  rcases hx with rfl | rfl <;> exact ⟨by kernel_rfl, by kernel_rfl⟩
theorem wok_C : ∀ x ∈ [wCure, (⟨#[49, 45, 50]⟩ : ByteArray)], Wok x := fun x hx => by
  simp only [List.mem_cons, List.not_mem_nil, or_false] at hx
  rcases hx with rfl | rfl <;> exact ⟨by kernel_rfl, by kernel_rfl⟩
theorem wok_J : ∀ x ∈ [wJudge, (⟨#[49]⟩ : ByteArray), (⟨#[48]⟩ : ByteArray)], Wok x := fun x hx => by
  simp only [List.mem_cons, List.not_mem_nil, or_false] at hx
  rcases hx with rfl | rfl | rfl <;> exact ⟨by kernel_rfl, by kernel_rfl⟩
theorem wok_D : ∀ x ∈ [wCure, (⟨#[49]⟩ : ByteArray)], Wok x := fun x hx => by
  simp only [List.mem_cons, List.not_mem_nil, or_false] at hx
  rcases hx with rfl | rfl <;> exact ⟨by kernel_rfl, by kernel_rfl⟩
theorem split_any (s : ByteArray) (ws : List ByteArray) (w : World) (h : Words s ws) (hk : ∀ x ∈ ws, Wok x) (hl : ws.length ≤ 10) (hg : Gl w) :
    Calls Tryz.prog 102 #[.string s] w fun e w' => e = .returned (.tuple #[.slice (some ⟨w.heap.size, 0, none⟩) ws.length ws.length, .bool true]) ∧ w' = w.alloc (.cells (ws.map Value.string).toArray 9) := by
  obtain ⟨⟨m, hm⟩, -⟩ := hg
  have HS := Lib.hid (Tryz.strings_Split s spB m w (by have := h.l; omega) hm (by decide))
  rw [h.n, h.w] at HS
  have HK := Lib.hid hk
  clear h hk hm
  unfold spB at HS
  obtain ⟨n, hn⟩ : ∃ n, n = ws.length := ⟨_, rfl⟩
  have HN := Lib.hid hn
  rw [← hn] at HS hl ⊢
  clear hn
  go_enter Tryz.func102, Tryz.ntmps102
  go_wp2_with fail
  refine HS.out.mono ?_
  rintro e w1 ⟨rfl, hw⟩
  have HW := Lib.hid hw
  have HC : Hid (∀ (k : Nat) x, ws[k]? = some x → w1.cell? ⟨w.heap.size, k, none⟩ = some (.string x)) := fun k x hx => by
    rw [hw, blk_cell (heap_alloc_new w _)]
    simp [hx]
  clear hw HS
  go_wp2_with fail
  go_loopw [11] (fun iv wr => ∃ k : Nat, k ≤ n ∧ iv = .int .i64 (k : Int) ∧ wr = w1) (fun iv _ => n - (RowKit.intOf iv).toNat)
  case atStart => exact ⟨0, Nat.zero_le _, rfl, rfl⟩
  case round =>
    obtain ⟨k, hk, rfl, hw⟩ := hrel
    obtain rfl := hw.symm
    clear hw
    by_cases hlt : k < n
    · obtain ⟨x, hx⟩ : ∃ x, ws[k]? = some x := ⟨_, List.getElem?_eq_getElem (by have := HN.out; omega)⟩
      have hc := HC.out k x hx
      obtain ⟨hx1, hx2⟩ := HK.out x (List.mem_of_getElem? hx)
      have HX2 := Lib.hid hx2
      have hx3 : ¬ x.toList = [] := fun e => by rw [e] at hx1; cases hx1
      have hki : (k : Int) < (n : Int) := by omega
      have hwk : IntKind.i64.wrap ((k : Int) + 1) = (k : Int) + 1 := IntWalk.i64_in _ (by omega)
      clear hx hx2
      go_wp2_with fail
      refine (Tryz.strings_Contains_one x 10 _).mono ?_
      rintro e w2 ⟨rfl, hw⟩
      obtain rfl := hw.symm
      clear hw hc
      rw [HX2.out]
      go_wp2_with fail
      go_roundw
      case rel => exact ⟨k + 1, by omega, by go_num, trivial⟩
      case measure => simp [RowKit.intOf]; omega
    · have hki : ¬ (k : Int) < (n : Int) := by omega
      go_wp2_with fail
      go_ret2
      exact ⟨rfl, HW.out⟩
/-- A command. -/
structure CmdD where
  word : ByteArray
  kind : Int
  n : Bool
def cmdC (c : CmdD) : List Value := [.string c.word, .int .i64 c.kind, .bool c.n]
def cmds : List CmdD := [⟨⟨#[98, 117, 105, 108, 100]⟩, 2, false⟩, ⟨⟨#[99, 117, 114, 101]⟩, 3, false⟩, ⟨⟨#[109, 101, 110, 100]⟩, 5, false⟩, ⟨⟨#[114, 101, 116, 117, 114, 110]⟩, 8, false⟩, ⟨⟨#[115, 99, 114, 97, 112]⟩, 10, false⟩, ⟨⟨#[106, 117, 100, 103, 101]⟩, 4, true⟩, ⟨⟨#[115, 104, 105, 112]⟩, 7, true⟩, ⟨⟨#[114, 101, 116, 114, 101, 97, 100]⟩, 9, true⟩]
theorem commands_any (w : World) : Calls Tryz.prog 104 #[] w fun e w' => e = .returned (.slice (some ⟨w.heap.size, 0, none⟩) 8 8) ∧ w' = w.alloc (.cells (cmds.flatMap cmdC).toArray 193) := by
  go_enter Tryz.func104, Tryz.ntmps104
  go_wp2_with fail
  go_ret
  exact ⟨rfl, rfl⟩
theorem cmd_at {k : Nat} {c : CmdD} (h : cmds[k]? = some c) (w : World) : (w.alloc (.cells (cmds.flatMap cmdC).toArray 193)).rangeAt w.heap.size (k * 3) (cmdC c) := fun j v hv => by
  rw [blk_cell (heap_alloc_new w _)]
  have := flat_at (f := cmdC) (k := 3) (fun _ => rfl) cmds k c h j v hv
  simpa using this
end Go.Proofs.YtfondpakbiagjaaGreatDoor
