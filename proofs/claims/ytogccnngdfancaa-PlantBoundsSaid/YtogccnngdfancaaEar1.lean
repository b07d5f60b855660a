/- The walks of earliest's closure and of IndexFunc over ints. -/
import Derived.Test.YtogccnngdfancaaFits
import Derived.Test.YtogccnngdfancaaSortI
namespace Go.Proofs.Ytogccnngdfancaa
open Go.RowKit
set_option linter.unusedVariables false
set_option linter.unusedSimpArgs false
set_option maxHeartbeats 400000 in
theorem indexFuncI_any (v : Value) (l : List Int) (S : Nat → Prop) (fid : FuncId) (cpt : Array Value) (eg : ∀ args w, (callFunc fid args).run Try.prog w = .ok (.enter fid args) w) (P : Int → Bool) (w : World) (hv : Rd (Value.int .i64) w S v l)
    (hf : ∀ x ∈ l, ∀ w', Below w.heap.size w w' → Calls Try.prog fid (#[.int .i64 x] ++ cpt) w' fun e w'' => e = .returned (.bool (P x)) ∧ Below w'.heap.size w' w'') :
    Calls Try.prog 37 #[v, .func (.func fid) #[] cpt] w fun e w' => e = .returned (.int .i64 (firstIdx (atB P l) l.length)) ∧ Below w.heap.size w w' := by
  obtain ⟨A, n, cap, rfl, hn, hcap, hmax, hc⟩ := hv.lt.open_
  rw [hn]
  obtain ⟨p, hp⟩ : ∃ p, p = atB P l := ⟨_, rfl⟩
  have HF : Hid (∀ k x, l[k]? = some x → ∀ w', Below w.heap.size w w' → Calls Try.prog fid (#[.int .i64 x] ++ cpt) w' fun e w'' => e = .returned (.bool (p k)) ∧ Below w'.heap.size w' w'') := fun k x hx => by
    rw [hp, atB_hit hx]
    exact hf x (mem_of_get? hx)
  rw [← hp]
  have HN := Lib.hid hn
  have HC := Lib.hid hc
  clear hn hf hp hc hv
  go_enter Try.func37, Try.ntmps37
  go_wp2_with fail
  go_loopw [8] (fun i wr => ∃ k : Nat, k ≤ n ∧ i = .int .i64 k ∧ Hid (∀ j, j < k → p j = false) ∧ Below w.heap.size w wr) (fun i _ => n - (intOf i).toNat)
  case atStart => exact ⟨0, by omega, rfl, fun j hj => absurd hj (by omega), Below.refl _ _⟩
  case round =>
    obtain ⟨k, hk, rfl, HK, hbl⟩ := hrel
    by_cases hlt : k < n
    · obtain ⟨b, off, x, rfl, ⟨_, hbw⟩, hu, hcell⟩ := HC.out k hlt
      have d0 : wr.cell? ⟨b, off + k, none⟩ = some (.int .i64 x) := (hbl.cell (p := ⟨b, _, none⟩) hbw).trans hcell
      have HCO := Lib.hid (HF.out k x hu wr hbl)
      have HBL := Lib.hid hbl
      clear hcell hu hbl
      cases hp : p k with
      | true =>
        have HR := Lib.hid (firstIdx_hit hlt hp HK.out)
        rw [hp] at HCO
        clear hp
        go_wp2_with fail
        refine HCO.out.mono ?_
        rintro e w1 ⟨rfl, hb1⟩
        go_wp2_with fail
        go_ret
        exact ⟨ret_int HR.out.symm, HBL.out.trans (hb1.mono HBL.out.size)⟩
      | false =>
        have HK1 : Hid (∀ j, j < k + 1 → p j = false) := fun j hj => by
          rcases Nat.lt_or_ge j k with h | h
          · exact HK.out j h
          · obtain rfl : j = k := by omega
            exact hp
        rw [hp] at HCO
        clear hp
        go_wp2_with fail
        refine HCO.out.mono ?_
        rintro e w1 ⟨rfl, hb1⟩
        go_wp2_with fail
        go_roundw
        case rel => exact ⟨k + 1, by omega, by go_num, HK1, HBL.out.trans (hb1.mono HBL.out.size)⟩
        case measure => simp [intOf]; omega
    · have HR := Lib.hid (firstIdx_miss (n := n) (fun j hj => HK.out j (by omega)))
      go_wp2_with fail
      go_ret
      exact ⟨ret_int HR.out.symm, hbl⟩
set_option maxRecDepth 100000 in
set_option maxHeartbeats 1000000 in
theorem ear1_any (t press kind : Int) (bw bl bp bk : Nat) (tw tl tp tk : TypeId) (d : WorksD) (l : List JobD) (vl vc vn vm : Value) (S T : Nat → Prop) (w : World)
    (hw : w.heap[bw]? = some (.cells #[.int .i64 d.presses, .int .i64 d.change, vc, vn, vm] tw)) (hl0 : w.heap[bl]? = some (.cells #[vl] tl))
    (hp : w.heap[bp]? = some (.cells #[.int .i64 press] tp)) (hk : w.heap[bk]? = some (.cells #[.int .i64 kind] tk))
    (hv : WkV w S (.agg #[.int .i64 d.presses, .int .i64 d.change, vc, vn, vm]) d) (hl : RdK 3 jobC w T vl l) (h0 : 0 ≤ kind) (h1 : kind < d.cure.length) (hml : d.moulds.length = d.cure.length)
    (ht : Calm t) (hs : ∀ y ∈ l, y.kind = kind → Calm y.start) (hc : Calm (cureOf d kind)) (hll : l.length ≤ 900) :
    Calls Try.prog 38 #[.int .i64 t, .pointer (some ⟨bw, 0, none⟩), .pointer (some ⟨bl, 0, none⟩), .pointer (some ⟨bp, 0, none⟩), .pointer (some ⟨bk, 0, none⟩)] w fun e w' => e = .returned (.bool (fitsP d l ⟨press, kind, t⟩)) ∧ Below w.heap.size w w' := by
  have HF := Lib.hid (fits_any _ vl d l ⟨press, kind, t⟩ S T w hv hl h0 h1 hml ht hs hc hll)
  have x0 := cell_of_row w bw 0 _ _ _ hw
  have x1 := cell_of_row w bw 1 _ _ _ hw
  have x2 := cell_of_row w bw 2 _ _ _ hw
  have x3 := cell_of_row w bw 3 _ _ _ hw
  have x4 := cell_of_row w bw 4 _ _ _ hw
  have y0 := cell_of_row w bl 0 _ _ _ hl0
  have y1 := cell_of_row w bp 0 _ _ _ hp
  have y2 := cell_of_row w bk 0 _ _ _ hk
  obtain ⟨r, hr⟩ : ∃ r, r = fitsP d l ⟨press, kind, t⟩ := ⟨_, rfl⟩
  rw [← hr] at HF ⊢
  simp at x0 x1 x2 x3 x4 y0 y1 y2
  simp only [JobV] at HF
  clear hw hl0 hp hk hv hl h1 hml hs hc hll ht hr
  go_enter Try.func38, Try.ntmps38
  go_wp2_with fail
  refine HF.out.mono ?_
  rintro e w1 ⟨rfl, hb1⟩
  go_wp2_with fail
  go_ret
  exact ⟨rfl, hb1⟩
end Go.Proofs.Ytogccnngdfancaa
