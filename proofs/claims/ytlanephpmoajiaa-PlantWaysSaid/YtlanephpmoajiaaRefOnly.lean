/- The walk of the reference's only. -/
import Derived.Test.YtlanephpmoajiaaRefWays
namespace Go.Proofs.Ytlanephpmoajiaa
open Go.RowKit

/-- The marks but for one place. -/
def onlyM (ms : List Bool) (but : Int) : List Bool := ms.mapIdx (fun i b => b && decide ((i : Int) ≠ but))
theorem onlyM_get (ms : List Bool) (but : Int) (k : Nat) : (onlyM ms but)[k]? = ms[k]?.map (fun b => b && decide ((k : Int) ≠ but)) := by
  unfold onlyM; rw [List.getElem?_mapIdx]
theorem onlyM_len (ms : List Bool) (but : Int) : (onlyM ms but).length = ms.length := by unfold onlyM; simp
set_option maxRecDepth 100000 in
set_option maxHeartbeats 1000000 in
theorem only_any (v u : Value) (xs : List ItemD) (ms : List Bool) (but : Int) (S T : Nat → Prop) (w : World) (hv : RdI w S v xs) (hu : Rd .bool w T u ms) (hl : ms.length = xs.length) (hxl : xs.length ≤ 1024) :
    Calls Try.prog 74 #[v, u, .int .i64 but] w fun e w' => (∃ v', e = .returned v' ∧ Rd .string w' (w.heap.size ≤ ·) v' (namesOf xs (onlyM ms but))) ∧ Below w.heap.size w w' := by
  obtain ⟨i0, hi, hz0, hz1, hz2⟩ := info_parts info9
  obtain ⟨A, n, cap, rfl, hn, hcap, hmax, hc⟩ := hv.lt.open_
  obtain ⟨A2, m, cap2, rfl, hm, hcap2, hmax2, hc2⟩ := hu.lt.open_
  obtain rfl : n = m := by omega
  have hn1024 : n ≤ 1024 := by omega
  have HN := Lib.hid hn
  have HM := Lib.hid hm
  have HC := Lib.hid hc
  have HC2 := Lib.hid hc2
  clear hc hc2 hn hm hl hv hu hxl
  go_enter Try.func74, Try.ntmps74
  go_wp2_with fail
  go_loopw [7, 8] (fun o iv wr => ∃ k : Nat, k ≤ n ∧ iv = .int .i64 k ∧ wr.ownsRow w.heap.size 9 1 o (namesOf (xs.take k) ((onlyM ms but).take k)).length ((namesOf (xs.take k) ((onlyM ms but).take k)).map Value.string) ∧ Below w.heap.size w wr) (fun _ iv _ => n - (intOf iv).toNat)
  case atStart => exact ⟨0, Nat.zero_le _, rfl, World.ownsRow_nil _ _ _ _, Below.refl _ _⟩
  case round =>
    obtain ⟨k, hk, rfl, hown, hbel⟩ := hrel
    by_cases hlt : k < n
    · obtain ⟨b, off, mk, rfl, ⟨_, hbw⟩, hmk, hcell⟩ := HC2.out k hlt
      have hcell' : wr.cell? ⟨b, off + k, none⟩ = some (.bool mk) := (hbel.cell (p := ⟨b, off + k, none⟩) hbw).trans hcell
      obtain ⟨b2, off2, x, fx, rfl, ⟨_, hbw2⟩, hx, i0', -⟩ := HC.out k hlt
      have i1' : wr.cell? ⟨b2, off2 + k * 4, none⟩ = some (.string x.name) := (hbel.cell (p := ⟨b2, _, none⟩) hbw2).trans i0'
      have hom : (onlyM ms but)[k]? = some (mk && decide ((k : Int) ≠ but)) := by rw [onlyM_get, hmk]; rfl
      have hsn := namesOf_snoc hx hom
      have hlen := namesOf_len xs (onlyM ms but) k
      obtain ⟨L, hL⟩ : ∃ L, L = namesOf (xs.take k) ((onlyM ms but).take k) := ⟨_, rfl⟩
      rw [← hL] at hsn hown hlen
      obtain ⟨xn, xk, xa, xf⟩ := x
      simp only at i1' hsn
      have hcase : (mk = false ∧ (mk && decide ((k : Int) ≠ but)) = false) ∨ (mk = true ∧ ((k : Int) != but) = false ∧ (mk && decide ((k : Int) ≠ but)) = false) ∨ (mk = true ∧ ((k : Int) != but) = true ∧ (mk && decide ((k : Int) ≠ but)) = true) := by
        cases mk
        · exact .inl ⟨rfl, rfl⟩
        · by_cases h : (k : Int) = but
          · exact .inr (.inl ⟨rfl, by simp [h], by simp [h]⟩)
          · exact .inr (.inr ⟨rfl, by simpa using h, by simpa using h⟩)
      rcases hcase with ⟨rfl, hd⟩ | ⟨rfl, hkb, hd⟩ | ⟨rfl, hkb, hd⟩
      · rw [hd, if_neg (by simp), List.append_nil] at hsn
        have HSN := Lib.hid hsn
        clear hL hsn hmk hx hcell hom hd i0'
        go_wp2_with fail
        go_roundw
        case rel => exact ⟨k + 1, by omega, by go_num, by rw [HSN.out]; exact hown, hbel⟩
        case measure => simp [intOf]; omega
      · rw [hd, if_neg (by simp), List.append_nil] at hsn
        have HSN := Lib.hid hsn
        clear hL hsn hmk hx hcell hom hd i0'
        go_wp2_with fail
        go_roundw
        case rel => exact ⟨k + 1, by omega, by go_num, by rw [HSN.out]; exact hown, hbel⟩
        case measure => simp [intOf]; omega
      · rw [hd, if_pos rfl] at hsn
        have HSN := Lib.hid hsn
        have hszw := hbel.size
        clear hL hsn hmk hx hcell hom hd i0'
        go_wp2_with (at_builtin; refine wpList_append_own _ rfl _ _ 52 rfl w.heap.size 9 i0 (.string ⟨#[]⟩) 1 16 Try.underlying52 hi hz0 hz1 hz2 rfl (by decide) _ _ _ rfl (hown.alloc _) ⟨wr.heap.size, 0, none⟩ 1 1 [.string xn] rfl rfl (cell_one_new _ _ _) (fun u hu => by simp at hu; subst hu; rfl) (by unfold maxLen; omega) (by omega) (by simp; omega) ?_; intro v' w1 hown' hgrow _)
        have hg := grown_below hown hgrow hszw
        go_roundw
        case rel => exact ⟨k + 1, by omega, by go_num, by rw [HSN.out, List.map_append, List.length_append]; exact hown', hbel.trans hg.1⟩
        case measure => simp [intOf]; omega
    · have h1 : xs.take k = xs := List.take_of_length_le (by have := HN.out; omega)
      have h2 : (onlyM ms but).take k = onlyM ms but := List.take_of_length_le (by rw [onlyM_len]; have := HM.out; omega)
      rw [h1, h2] at hown
      have HO := Lib.hid hown
      clear hown h1 h2
      go_wp2_with fail
      go_ret
      exact ⟨⟨_, rfl, Rd.of_own HO.out⟩, hbel⟩
end Go.Proofs.Ytlanephpmoajiaa
