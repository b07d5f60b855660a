/- The walk of the reference's From. -/
import Derived.Test.YtlanephpmoajiaaRefOnly
import Derived.Test.YtlanephpmoajiaaSpreadB
import Derived.Test.YtlanephpmoajiaaUsesPlain
namespace Go.Proofs.Ytlanephpmoajiaa
open Go.RowKit

/-- Does a marked place before i hold a choice of item i? -/
def fromHit (xs : List ItemD) (m : List Bool) (i k : Nat) : Bool := m.getD k false && (match xs[i]?, xs[k]? with | some x, some y => chosenB x y.name | _, _ => false)
def fromAt (xs : List ItemD) (m : List Bool) (i : Nat) : Bool := m.getD i false || (List.range i).any (fromHit xs m i)
def fromGo (xs : List ItemD) (m : List Bool) : Nat → List Bool
  | 0 => m
  | d + 1 => (fromGo xs m d).set d (fromAt xs (fromGo xs m d) d)
theorem fromGo_len (xs : List ItemD) (m : List Bool) : ∀ d, (fromGo xs m d).length = m.length
  | 0 => rfl
  | d + 1 => by simp [fromGo, fromGo_len xs m d]
/-- The marks while item i is looked at: l places have been seen. -/
def fromMid (xs : List ItemD) (m : List Bool) (i l : Nat) : List Bool := m.set i (m.getD i false || (List.range l).any (fromHit xs m i))
theorem set_getD (m : List Bool) (i : Nat) : m.set i (m.getD i false) = m := by
  refine List.ext_getElem (by simp) fun j h1 h2 => ?_
  rw [List.getElem_set]
  split
  · rename_i h; subst h; simp [List.getD, List.getElem?_eq_getElem h2]
  · rfl
theorem fromMid_zero (xs : List ItemD) (m : List Bool) (i : Nat) : fromMid xs m i 0 = m := by
  unfold fromMid
  have e : (m.getD i false || (List.range 0).any (fromHit xs m i)) = m.getD i false := by simp
  rw [e, set_getD]
theorem fromMid_end (xs : List ItemD) (m : List Bool) (i : Nat) : fromMid xs m i i = m.set i (fromAt xs m i) := rfl
theorem fromMid_len (xs : List ItemD) (m : List Bool) (i l : Nat) : (fromMid xs m i l).length = m.length := by unfold fromMid; simp
theorem fromMid_get {xs : List ItemD} {m : List Bool} {i l k : Nat} (h : k < i) : (fromMid xs m i l).getD k false = m.getD k false := by
  unfold fromMid; rw [getD_set, if_neg (by omega)]
theorem fromMid_miss {xs : List ItemD} {m : List Bool} {i l : Nat} (h : fromHit xs m i l = false) : fromMid xs m i (l + 1) = fromMid xs m i l := by
  unfold fromMid; rw [List.range_succ, List.any_append]; simp [h]
theorem fromMid_hit {xs : List ItemD} {m : List Bool} {i l : Nat} (h : fromHit xs m i l = true) : fromMid xs m i (l + 1) = (fromMid xs m i l).set i true := by
  unfold fromMid; rw [List.range_succ, List.any_append, List.set_set]; simp [h]
/-- What the loops of From keep. -/
def FromW (w : World) (v : Value) (n : Nat) (m : List Bool) (wr : World) : Prop := wr.ownsRow w.heap.size 4 1 v n (m.map Value.bool) ∧ Below w.heap.size w wr
theorem FromW.below {w wr w2 : World} {v : Value} {n : Nat} {m : List Bool} (h : FromW w v n m wr) (hb : Below wr.heap.size wr w2) : FromW w v n m w2 :=
  ⟨h.1.kept (row := none) ⟨hb.os, hb.tape, hb.output, hb.size, fun k hk _ => hb.block k hk⟩ (Classical.em _), h.2.trans (hb.mono h.2.size)⟩
theorem FromW.at_ {w wr : World} {A : Option Addr} {n c : Nat} {m : List Bool} (h : FromW w (.slice A n c) n m wr) {k : Nat} (hk : k < n) :
    ∃ g, A = some ⟨g, 0, none⟩ ∧ w.heap.size ≤ g ∧ g < wr.heap.size ∧ wr.cell? ⟨g, k, none⟩ = some (.bool (m.getD k false)) ∧ wr.frozen? ⟨g, k, none⟩ = false := by
  obtain ⟨g, u, h1, h2, h3, h4, h5, h6⟩ := ownsRow_at h.1 k hk
  refine ⟨g, h1, h2, h3, ?_, h6⟩
  rw [List.getElem?_map, Option.map_eq_some_iff] at h4
  obtain ⟨b, hb, rfl⟩ := h4
  rw [h5]; simp [List.getD, hb]
theorem FromW.store {w wr : World} {g n c : Nat} {m : List Bool} (h : FromW w (.slice (some ⟨g, 0, none⟩) n c) n m wr) (hg : w.heap.size ≤ g) (i : Nat) : FromW w (.slice (some ⟨g, 0, none⟩) n c) n (m.set i true) (wr.setCell ⟨g, i, none⟩ (.bool true)) :=
  ⟨by have := (h.1.stored i (.bool true)).1; rw [List.map_set]; exact this, h.2.setCell hg _⟩

set_option maxRecDepth 100000 in
set_option maxHeartbeats 1000000 in
theorem from_any (v u : Value) (xs : List ItemD) (ms : List Bool) (S T : Nat → Prop) (w : World) (hv : RdI w S v xs) (hu : Rd .bool w T u ms) (hl : ms.length = xs.length) (hxl : xs.length ≤ 1024) :
    Calls Try.prog 72 #[v, u] w fun e w' => (∃ v', e = .returned v' ∧ w'.ownsRow w.heap.size 4 1 v' xs.length ((fromGo xs ms xs.length).map Value.bool)) ∧ Below w.heap.size w w' := by
  obtain ⟨i0, hi, hz0, hz1, hz2⟩ := info_parts info4
  have hr1 : Rd .bool (w.alloc (.cells #[] 4)) (fun _ => True) u ms := (hu.lt.keep ((Keep.refl _ w).alloc (fun k hk => hk.2) _)).mono fun _ _ => trivial
  obtain ⟨A, n, cap, rfl, hn, hcap, hmax, hc⟩ := hv.lt.open_
  have hn1024 : n ≤ 1024 := by omega
  have hmn : ms.length = n := by omega
  have HN := Lib.hid hn
  have HM := Lib.hid hmn
  have HC := Lib.hid hc
  have hm1024 : ms.length ≤ 1024 := by omega
  clear hc hn hl hv hxl hmn
  obtain ⟨Au, nu, cu, rfl⟩ : ∃ A n c, u = .slice A n c := by obtain ⟨A, c, e, _⟩ := hu; exact ⟨_, _, _, e⟩
  clear hu
  go_enter Try.func72, Try.ntmps72
  go_wp2_with (at_builtin; first | (refine wpList_append_rd (f := Value.bool) rfl _ _ 122 rfl w.heap.size 4 i0 (.bool false) 1 Try.underlying122 hi hz0 hz1 hz2 rfl (.slice (some ⟨w.heap.size, 0, none⟩) 0 0) 0 [] rfl (World.ownsRow_made w #[] 0 (Nat.le_refl _) (by decide) rfl) (.slice Au nu cu) (fun _ => True) ms rfl hr1 (fun u hu => by obtain ⟨x, _, rfl⟩ := List.mem_map.1 hu; rfl) (by unfold maxLen; omega) (by omega) (by simp) ?_; intro v' w1 hown1 hg1 _; rw [Nat.zero_add, List.nil_append] at hown1; have hb1 : Below w.heap.size w w1 := ((Below.refl _ w).alloc (Nat.le_refl _) _).grown hg1 (by simp) (fun k hk => by simp [Value.ownBlock] at hk; omega); have HO1 := Lib.hid hown1; obtain ⟨A1, c1, rfl⟩ := ownsRow_slice hown1))
  have hF0 : FromW w (.slice A1 ms.length c1) ms.length (fromGo xs ms 0) w1 := ⟨HO1.out, hb1⟩
  rw [HM.out] at hF0 ⊢
  have HF0 := Lib.hid hF0
  clear hF0 hown1 hg1 hb1 HO1
  go_loopw [6] (fun iv wr => ∃ k : Nat, k ≤ n ∧ iv = .int .i64 k ∧ FromW w (.slice A1 n c1) n (fromGo xs ms k) wr) (fun iv _ => n - (intOf iv).toNat)
  case atStart => exact ⟨0, Nat.zero_le _, rfl, HF0.out⟩
  case round =>
    clear HF0
    obtain ⟨i, hi', rfl, hF⟩ := hrel
    by_cases hlt : i < n
    · obtain ⟨m, hm⟩ : ∃ m, m = fromGo xs ms i := ⟨_, rfl⟩
      rw [← hm] at hF
      have HMM := Lib.hid hm
      have HF := Lib.hid hF
      clear hm hF
      go_wp2_with fail
      go_loopw [7] (fun iv wr => ∃ l : Nat, l ≤ i ∧ iv = .int .i64 l ∧ FromW w (.slice A1 n c1) n (fromMid xs m i l) wr) (fun iv _ => i - (intOf iv).toNat)
      case atStart => exact ⟨0, Nat.zero_le _, rfl, by rw [fromMid_zero]; exact HF.out⟩
      case round =>
        clear HF
        obtain ⟨l, hl, rfl, hF⟩ := hrel
        by_cases hli : l < i
        · obtain ⟨g, rfl, hg, hgw, hcl, -⟩ := hF.at_ (k := l) (by omega)
          rw [fromMid_get hli] at hcl
          cases hb : m.getD l false with
          | false =>
            rw [hb] at hcl
            have hh : fromHit xs m i l = false := by unfold fromHit; rw [hb]; rfl
            have hnx := fromMid_miss hh
            have HNX := Lib.hid hnx
            have HF := Lib.hid hF
            clear hF hh hnx hb
            go_wp2_with fail
            go_quiet (fail)
            go_wp2_with fail
            go_roundw
            case rel => exact ⟨l + 1, by omega, by go_num, by rw [HNX.out]; exact HF.out.below (below_drewN (Below.refl _ _) _)⟩
            case measure => simp [intOf]; omega
          | true =>
            rw [hb] at hcl
            obtain ⟨b, off, x, fx, rfl, ⟨_, hbl⟩, hx, i0', i1', i2', i3', hfx⟩ := HC.out i hlt
            obtain ⟨b', off', y, fy, he, -, hy, j0', -⟩ := HC.out l (by omega)
            simp only [Option.some.injEq, Addr.mk.injEq, and_true] at he
            obtain ⟨rfl, rfl⟩ := he
            have hbw := hF.2
            have p0 := (hbw.cell (p := ⟨b, off + i * 4, none⟩) hbl).trans i0'
            have p1 := (hbw.cell (p := ⟨b, off + i * 4 + 1, none⟩) hbl).trans i1'
            have p2 := (hbw.cell (p := ⟨b, off + i * 4 + 2, none⟩) hbl).trans i2'
            have p3 := (hbw.cell (p := ⟨b, off + i * 4 + 3, none⟩) hbl).trans i3'
            have p4 := (hbw.cell (p := ⟨b, off + l * 4, none⟩) hbl).trans j0'
            have hh : fromHit xs m i l = chosenB x y.name := by unfold fromHit; rw [hb]; simp [hx, hy]
            obtain ⟨Af, nf, cf, rfl⟩ := hfx.isSlice
            obtain ⟨ch, hch⟩ : ∃ ch, ch = chosenB x y.name := ⟨_, rfl⟩
            have HCH : Hid (∀ q, Calls Try.prog 86 #[.agg #[.string x.name, .int .i64 x.kind, .int .i64 x.at_, .slice Af nf cf], .string y.name] (wr.drewN q) fun e w' => e = .returned (.bool ch) ∧ Below wr.heap.size wr w') := fun q => by
              refine (chosen_any x _ y.name _ (wr.drewN q) ((hfx.below hbw).below (below_drewN (Below.refl _ _) q))).mono fun e w' ⟨h3, h4⟩ => ⟨by rw [h3, hch], ?_⟩
              have h5 : (wr.drewN q).heap = wr.heap := by simp
              rw [h5] at h4
              exact (below_drewN (Below.refl _ wr) q).trans h4
            rw [← hch] at hh
            have hl0 : (0 : Int) ≤ (l : Int) := by omega
            have hln : (l : Int) < (n : Int) := by omega
            have hi0 : (0 : Int) ≤ (i : Int) := by omega
            have hin : (i : Int) < (n : Int) := by omega
            have hblw : b < wr.heap.size := by have := hbw.size; omega
            obtain ⟨xn, xk, xa, xf⟩ := x
            obtain ⟨yn, yk, ya, yf⟩ := y
            simp only at p0 p1 p2 p4 HCH
            have HH := Lib.hid hh
            have HF := Lib.hid hF
            clear hF hh hb hch hx hy i0' i1' i2' i3' j0' hfx
            go_wp2_with fail
            go_region_held3 (fun w' => w'.cell? ⟨g, l, none⟩ = some (.bool true) ∧ w'.cell? ⟨b, off + i * 4, none⟩ = some (.string xn) ∧ w'.cell? ⟨b, off + i * 4 + 1, none⟩ = some (.int .i64 xk) ∧ w'.cell? ⟨b, off + i * 4 + 2, none⟩ = some (.int .i64 xa) ∧ w'.cell? ⟨b, off + i * 4 + 3, none⟩ = some (.slice Af nf cf) ∧ w'.cell? ⟨b, off + l * 4, none⟩ = some (.string yn)) (first | exact ⟨hcl, p0, p1, p2, p3, p4⟩ | exact ⟨r0, r1, r2, r3, r4, r5⟩)
              (first | (go_at_call 86; refine (HCH.out _).mono ?_; rintro e w6 ⟨rfl, hb6⟩; have r0 := (hb6.cell (p := ⟨g, l, none⟩) hgw).trans hcl; have r1 := (hb6.cell (p := ⟨b, off + i * 4, none⟩) hblw).trans p0; have r2 := (hb6.cell (p := ⟨b, off + i * 4 + 1, none⟩) hblw).trans p1; have r3 := (hb6.cell (p := ⟨b, off + i * 4 + 2, none⟩) hblw).trans p2; have r4 := (hb6.cell (p := ⟨b, off + i * 4 + 3, none⟩) hblw).trans p3; have r5 := (hb6.cell (p := ⟨b, off + l * 4, none⟩) hblw).trans p4))
            all_goals
              have hF6 := HF.out.below hb6
              obtain ⟨g', he', -, -, hci, hfi⟩ := hF6.at_ (k := i) hlt
              simp only [Option.some.injEq, Addr.mk.injEq, and_true] at he'
              subst he'
              have HF6 := Lib.hid hF6
              clear hF6
              cases ch with
              | false =>
                have HNX := Lib.hid (fromMid_miss HH.out)
                go_wp2_with fail
                go_roundw
                case rel => exact ⟨l + 1, by omega, by go_num, by rw [HNX.out]; exact HF6.out⟩
                case measure => simp [intOf]; omega
              | true =>
                have HNX := Lib.hid (fromMid_hit HH.out)
                go_wp2_with fail
                go_roundw
                case rel => exact ⟨l + 1, by omega, by go_num, by rw [HNX.out]; exact HF6.out.store hg i⟩
                case measure => simp [intOf]; omega
        · have hl' : l = i := by omega
          subst hl'
          have HF := Lib.hid hF
          clear hF
          go_wp2_with fail
          go_roundw
          case rel => exact ⟨l + 1, by omega, by go_num, by have := HF.out; rw [fromMid_end, HMM.out] at this; exact this⟩
          case measure => simp [intOf]; omega
    · have hin : i = n := by omega
      have HF := Lib.hid hF
      clear hF
      go_wp2_with fail
      go_ret
      have := HF.out
      rw [hin] at this
      exact ⟨⟨_, rfl, by rw [HN.out]; exact this.1⟩, this.2⟩
end Go.Proofs.Ytlanephpmoajiaa
