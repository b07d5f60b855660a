/- The walk of running. Two rows of the call's own that grow side by side in a region that draws its order; slices of structs of k cells. More of two rows that grow side by side: a store beside them, a store into one of them; a copy of a list of ints. What else an append leaves: the kind of the cells of its row. Two rows of fractions that grow side by side. A sorted list of numbers: plain. The walk of the check of works. -/
import Derived.Test.YtogccnngdfancaaGreatPart02
import Derived.Test.YtogccnngdfancaaGreatPart01
import Derived.Deep.RegionHeld3
import Derived.Maps.AppendAt
import Derived.RowKit
namespace Go.Proofs.YtogccnngdfancaaGreat
open Go.RowKit
set_option linter.unusedVariables false
set_option linter.unusedSimpArgs false
def jobC (j : JobD) : List Value := [.int .i64 j.press, .int .i64 j.kind, .int .i64 j.start]
theorem jobC_0 (x : JobD) : ∃ u, (jobC x)[0]? = some u := ⟨_, rfl⟩
theorem jobC_len (x : JobD) : (jobC x).length = 3 := rfl
theorem runN_take {d : WorksD} {l : List JobD} {kind t : Int} {i : Nat} {x : JobD} (h : l[i]? = some x) : runN d (l.take (i + 1)) kind t = runN d (l.take i) kind t + if runB d kind t x = true then 1 else 0 := by
  rw [take_snoc? h, runN_snoc]
theorem runN_le (d : WorksD) (l : List JobD) (kind t : Int) : runN d l kind t ≤ l.length := List.countP_le_length
/-- Small numbers: sums do not wrap. -/
def Calm (z : Int) : Prop := -1000000000000 ≤ z ∧ z ≤ 1000000000000
set_option maxRecDepth 100000 in
set_option maxHeartbeats 1000000 in
theorem running_any (v vl : Value) (d : WorksD) (l : List JobD) (kind t : Int) (S T : Nat → Prop) (w : World) (hv : WkV w S v d) (hl : RdK 3 jobC w T vl l) (h0 : 0 ≤ kind) (h1 : kind < d.cure.length) (hs : ∀ j ∈ l, j.kind = kind → Calm j.start) (hc : Calm (cureOf d kind)) (hll : l.length ≤ 1000) :
    Calls Tryz.prog 29 #[v, vl, .int .i64 kind, .int .i64 t] w fun e w' => e = .returned (.int .i64 (runN d l kind t : Nat)) ∧ Below w.heap.size w w' := by
  have HE := Lib.hid (fun (j : JobD) (hj : j ∈ l) (hk : j.kind = kind) w' (h : Below w.heap.size w w') => end_any v d j S w' (hv.below h) (by rw [hk]; exact h0) (by rw [hk]; exact h1) (hs j hj hk) (by rw [hk]; exact hc))
  obtain ⟨vc, vn, vm, rfl, -, -, -⟩ := hv
  obtain ⟨A, n, cap, rfl, hn, hcap, hmax, hcc⟩ := (hl.lt jobC_0).open_
  have HN := Lib.hid hn
  have HC := Lib.hid hcc
  have hn1000 : n ≤ 1000 := by omega
  obtain ⟨W1, hW1⟩ : ∃ W1, W1 = w.alloc (.cells #[.int .i64 d.presses, .int .i64 d.change, vc, vn, vm] 38) := ⟨_, rfl⟩
  have hm1 := heap_alloc_new w (.cells #[.int .i64 d.presses, .int .i64 d.change, vc, vn, vm] 38)
  have hb1 : Below w.heap.size w W1 := by rw [hW1]; exact (Below.refl _ w).alloc (Nat.le_refl _) _
  rw [← hW1] at hm1
  have HW1 := Lib.hid hW1
  have HB1 := Lib.hid hb1
  have HM1 := Lib.hid hm1
  clear hl hn hcc hW1 hm1 hb1 hs hc h0 h1 hll
  go_enter Tryz.func29, Tryz.ntmps29
  go_wp2_with fail
  rw [← HW1.out]
  go_loopw [9, 14] (fun cv iv wr => ∃ i : Nat, i ≤ n ∧ iv = .int .i64 (i : Int) ∧ cv = .int .i64 (runN d (l.take i) kind t : Nat) ∧ Below W1.heap.size W1 wr) (fun _ iv _ => n - (intOf iv).toNat)
  case atStart => exact ⟨0, Nat.zero_le _, rfl, rfl, Below.refl _ _⟩
  case round =>
    obtain ⟨i, hi, rfl, rfl, hbel⟩ := hrel
    have HBR := Lib.hid (HB1.out.trans (hbel.mono HB1.out.size))
    have HBEL := Lib.hid hbel
    have HMR : Hid (wr.heap[w.heap.size]? = _) := (hbel.block _ (Array.getElem?_eq_some_iff.1 HM1.out).1).trans HM1.out
    clear hbel
    by_cases hlt : i < n
    · obtain ⟨b, off, x, rfl, ⟨_, hbl⟩, hx, hcell⟩ := HC.out i hlt
      have d0 : wr.cell? ⟨b, off + i * 3, none⟩ = some (.int .i64 x.press) := (HBR.out.cell (p := ⟨b, _, none⟩) hbl).trans (hcell 0 _ rfl)
      have d1 : wr.cell? ⟨b, off + i * 3 + 1, none⟩ = some (.int .i64 x.kind) := (HBR.out.cell (p := ⟨b, _, none⟩) hbl).trans (hcell 1 _ rfl)
      have d2 : wr.cell? ⟨b, off + i * 3 + 2, none⟩ = some (.int .i64 x.start) := (HBR.out.cell (p := ⟨b, _, none⟩) hbl).trans (hcell 2 _ rfl)
      have hst := runN_take (d := d) (kind := kind) (t := t) hx
      obtain ⟨c0, hc0⟩ : ∃ c0, c0 = runN d (l.take i) kind t := ⟨_, rfl⟩
      have hc0l : c0 ≤ i := by rw [hc0]; have := runN_le d (l.take i) kind t; rw [List.length_take] at this; omega
      rw [← hc0] at hst ⊢
      have HST := Lib.hid hst
      have HEX := Lib.hid (HE.out x (mem_of_get? hx))
      have hrb : Hid (runB d kind t x = (decide (x.kind = kind) && (decide (x.start ≤ t) && decide (t < endJ d x)))) := rfl
      obtain ⟨e, he⟩ : ∃ e, e = endJ d x := ⟨_, rfl⟩
      rw [← he] at HEX hrb
      obtain ⟨xp, xk, xs⟩ := x
      simp only [JobV] at d0 d1 d2 HEX hrb
      obtain ⟨wa, hwa⟩ : ∃ wa, wa = wr.alloc (.cells #[.int .i64 xp, .int .i64 xk, .int .i64 xs] 79) := ⟨_, rfl⟩
      have hma := heap_alloc_new wr (.cells #[.int .i64 xp, .int .i64 xk, .int .i64 xs] 79)
      have hba : Below wr.heap.size wr wa := by rw [hwa]; exact (Below.refl _ _).alloc (Nat.le_refl _) _
      rw [← hwa] at hma
      have HWA := Lib.hid hwa
      have HBA := Lib.hid (HBEL.out.trans (hba.mono HBEL.out.size))
      have HBA0 := Lib.hid (HBR.out.trans (hba.mono HBR.out.size))
      have x0 : (wr.alloc (.cells #[.int .i64 xp, .int .i64 xk, .int .i64 xs] 79)).cell? ⟨wr.heap.size, 0, none⟩ = some (.int .i64 xp) := by rw [← hwa]; exact cell_of_row wa _ 0 _ _ _ hma
      have x1 : (wr.alloc (.cells #[.int .i64 xp, .int .i64 xk, .int .i64 xs] 79)).cell? ⟨wr.heap.size, 1, none⟩ = some (.int .i64 xk) := by rw [← hwa]; exact cell_of_row wa _ 1 _ _ _ hma
      have x2 : (wr.alloc (.cells #[.int .i64 xp, .int .i64 xk, .int .i64 xs] 79)).cell? ⟨wr.heap.size, 2, none⟩ = some (.int .i64 xs) := by rw [← hwa]; exact cell_of_row wa _ 2 _ _ _ hma
      have hmw : wa.heap[w.heap.size]? = _ := (hba.block _ (Array.getElem?_eq_some_iff.1 HMR.out).1).trans HMR.out
      have y0 : (wr.alloc (.cells #[.int .i64 xp, .int .i64 xk, .int .i64 xs] 79)).cell? ⟨w.heap.size, 0, none⟩ = some (.int .i64 d.presses) := by rw [← hwa]; exact cell_of_row wa _ 0 _ _ _ hmw
      have y1 : (wr.alloc (.cells #[.int .i64 xp, .int .i64 xk, .int .i64 xs] 79)).cell? ⟨w.heap.size, 1, none⟩ = some (.int .i64 d.change) := by rw [← hwa]; exact cell_of_row wa _ 1 _ _ _ hmw
      have y2 : (wr.alloc (.cells #[.int .i64 xp, .int .i64 xk, .int .i64 xs] 79)).cell? ⟨w.heap.size, 2, none⟩ = some vc := by rw [← hwa]; exact cell_of_row wa _ 2 _ _ _ hmw
      have y3 : (wr.alloc (.cells #[.int .i64 xp, .int .i64 xk, .int .i64 xs] 79)).cell? ⟨w.heap.size, 3, none⟩ = some vn := by rw [← hwa]; exact cell_of_row wa _ 3 _ _ _ hmw
      have y4 : (wr.alloc (.cells #[.int .i64 xp, .int .i64 xk, .int .i64 xs] 79)).cell? ⟨w.heap.size, 4, none⟩ = some vm := by rw [← hwa]; exact cell_of_row wa _ 4 _ _ _ hmw
      have hli : (i : Int) < (n : Int) := by omega
      clear hx hcell hst hwa hma hba hmw he hc0
      by_cases k1 : xk = kind
      · have k1b : (xk == kind) = true := by simpa using k1
        by_cases k2 : xs ≤ t
        · have HEX2 := Lib.hid (HEX.out k1 wa HBA0.out)
          clear k1
          go_wp2_with fail
          rw [← HWA.out]
          refine HEX2.out.mono ?_
          rintro e' w5 ⟨rfl, hb5⟩
          have HB5 := Lib.hid (HBA.out.trans (hb5.mono HBA.out.size))
          clear x0 x1 x2 y0 y1 y2 y3 y4 hb5 d0 d1 d2
          by_cases k3 : t < e
          · have hbv : runB d kind t ⟨xp, xk, xs⟩ = true := by rw [hrb.out]; simp [k2, k3, eq_of_beq k1b]
            have HR : Hid (runN d (l.take (i + 1)) kind t = c0 + 1) := by show _ = _; rw [HST.out, if_pos hbv]
            clear hbv
            go_wp2_with fail
            go_roundw
            case rel => exact ⟨i + 1, by omega, by go_num, by rw [HR.out]; go_num, HB5.out⟩
            case measure => simp [intOf]; omega
          · have HR : Hid (runN d (l.take (i + 1)) kind t = c0) := by show _ = _; rw [HST.out, if_neg (by rw [hrb.out, decide_eq_false k3]; simp), Nat.add_zero]
            go_wp2_with fail
            go_roundw
            case rel => exact ⟨i + 1, by omega, by go_num, by rw [HR.out], HB5.out⟩
            case measure => simp [intOf]; omega
        · have HR : Hid (runN d (l.take (i + 1)) kind t = c0) := by show _ = _; rw [HST.out, if_neg (by rw [hrb.out, decide_eq_false k2]; simp), Nat.add_zero]
          have HB5 := HBA
          clear HE HEX k1
          go_wp2_with fail
          rw [← HWA.out]
          clear x0 x1 x2 y0 y1 y2 y3 y4 d0 d1 d2
          go_roundw
          case rel => exact ⟨i + 1, by omega, by go_num, by rw [HR.out], HB5.out⟩
          case measure => simp [intOf]; omega
      · have k1b : (xk == kind) = false := by simpa using k1
        have HR : Hid (runN d (l.take (i + 1)) kind t = c0) := by show _ = _; rw [HST.out, if_neg (by rw [hrb.out, decide_eq_false k1]; simp), Nat.add_zero]
        have HB5 := HBA
        clear HE HEX k1
        go_wp2_with fail
        rw [← HWA.out]
        clear x0 x1 x2 y0 y1 y2 y3 y4 d0 d1 d2
        go_roundw
        case rel => exact ⟨i + 1, by omega, by go_num, by rw [HR.out], HB5.out⟩
        case measure => simp [intOf]; omega
    · have hin : i = n := by omega
      have HR : Hid (runN d (l.take i) kind t = runN d l kind t) := by show _ = _; rw [hin, ← HN.out, List.take_length]
      clear hin
      go_wp2_with fail
      go_ret
      exact ⟨by rw [HR.out]; rfl, HBR.out⟩
end Go.Proofs.YtogccnngdfancaaGreat
namespace Go.Proofs.YtogccnngdfancaaGreat
open Go.RowKit
set_option linter.unusedVariables false

/-- Two rows of the call's own, and blocks that neither is. -/
structure TwoO (B : Nat) (e1 e2 : TypeId) (K1 K2 : Nat) (v1 : Value) (n1 : Nat) (c1 : List Value) (v2 : Value) (n2 : Nat) (c2 : List Value) (P : Nat → Obj → Prop) (W0 W : World) : Prop where
  a : W.ownsRow B e1 K1 v1 n1 c1
  b : W.ownsRow B e2 K2 v2 n2 c2
  ne : ∀ k, v1.ownBlock = some k → v2.ownBlock ≠ some k
  pr : ∀ k o, P k o → W.heap[k]? = some o ∧ v1.ownBlock ≠ some k ∧ v2.ownBlock ≠ some k
  bel : Below B W0 W
  hB : B ≤ W.heap.size
theorem TwoO.grow {B : Nat} {e1 e2 : TypeId} {K1 K2 : Nat} {v1 : Value} {n1 : Nat} {c1 : List Value} {v2 : Value} {n2 : Nat} {c2 : List Value} {P : Nat → Obj → Prop} {W0 W W' : World} (h : TwoO B e1 e2 K1 K2 v1 n1 c1 v2 n2 c2 P W0 W)
    (hb : Below W.heap.size W W') : TwoO B e1 e2 K1 K2 v1 n1 c1 v2 n2 c2 P W0 W' :=
  have hg : W.grownBy W' none := ⟨hb.os, hb.tape, hb.output, hb.size, fun k hk _ => hb.block k hk⟩
  ⟨h.a.kept hg (Classical.em _), h.b.kept hg (Classical.em _), h.ne, fun k o hp => ⟨(hb.block k (Array.getElem?_eq_some_iff.1 (h.pr k o hp).1).1).trans (h.pr k o hp).1, (h.pr k o hp).2⟩, h.bel.trans (hb.mono h.hB), by have := h.hB; have := hb.size; omega⟩
theorem TwoO.drew {B : Nat} {e1 e2 : TypeId} {K1 K2 : Nat} {v1 : Value} {n1 : Nat} {c1 : List Value} {v2 : Value} {n2 : Nat} {c2 : List Value} {P : Nat → Obj → Prop} {W0 W : World} (h : TwoO B e1 e2 K1 K2 v1 n1 c1 v2 n2 c2 P W0 W) :
    TwoO B e1 e2 K1 K2 v1 n1 c1 v2 n2 c2 P W0 W.drew := h.grow ((Below.refl _ W).drew)
/-- A block that is laid may be guarded. -/
theorem TwoO.lay {B : Nat} {e1 e2 : TypeId} {K1 K2 : Nat} {v1 : Value} {n1 : Nat} {c1 : List Value} {v2 : Value} {n2 : Nat} {c2 : List Value} {P : Nat → Obj → Prop} {W0 W : World} (h : TwoO B e1 e2 K1 K2 v1 n1 c1 v2 n2 c2 P W0 W) (o : Obj) :
    TwoO B e1 e2 K1 K2 v1 n1 c1 v2 n2 c2 (fun k o' => P k o' ∨ (k = W.heap.size ∧ o' = o)) W0 (W.alloc o) := by
  have h1 := h.grow ((Below.refl _ W).alloc (Nat.le_refl _) o)
  refine ⟨h1.a, h1.b, h1.ne, fun k o' hp => ?_, h1.bel, h1.hB⟩
  rcases hp with hp | ⟨rfl, rfl⟩
  · exact h1.pr k o' hp
  · refine ⟨heap_alloc_new W _, fun e => ?_, fun e => ?_⟩
    · have := (h.a.lt _ e).2; omega
    · have := (h.b.lt _ e).2; omega
theorem TwoO.strike {B : Nat} {e1 e2 : TypeId} {K1 K2 : Nat} {v1 : Value} {n1 : Nat} {c1 : List Value} {v2 : Value} {n2 : Nat} {c2 : List Value} {P P' : Nat → Obj → Prop} {W0 W : World} (h : TwoO B e1 e2 K1 K2 v1 n1 c1 v2 n2 c2 P W0 W) (hp : ∀ k o, P' k o → P k o) :
    TwoO B e1 e2 K1 K2 v1 n1 c1 v2 n2 c2 P' W0 W := ⟨h.a, h.b, h.ne, fun k o h1 => h.pr k o (hp k o h1), h.bel, h.hB⟩
theorem TwoO.swap {B : Nat} {e1 e2 : TypeId} {K1 K2 : Nat} {v1 : Value} {n1 : Nat} {c1 : List Value} {v2 : Value} {n2 : Nat} {c2 : List Value} {P : Nat → Obj → Prop} {W0 W : World} (h : TwoO B e1 e2 K1 K2 v1 n1 c1 v2 n2 c2 P W0 W) :
    TwoO B e2 e1 K2 K1 v2 n2 c2 v1 n1 c1 P W0 W := ⟨h.b, h.a, fun k h1 h2 => h.ne k h2 h1, fun k o hp => ⟨(h.pr k o hp).1, (h.pr k o hp).2.2, (h.pr k o hp).2.1⟩, h.bel, h.hB⟩
theorem TwoO.app {B : Nat} {e1 e2 : TypeId} {K1 K2 : Nat} {v1 : Value} {n1 : Nat} {c1 : List Value} {v2 : Value} {n2 : Nat} {c2 : List Value} {P : Nat → Obj → Prop} {W0 W W' : World} (h : TwoO B e1 e2 K1 K2 v1 n1 c1 v2 n2 c2 P W0 W)
    {v' : Value} {n' : Nat} {c' : List Value} (ho : W'.ownsRow B e1 K1 v' n' c') (hg : W.grownBy W' v1.ownBlock) (hf : ∀ b, v'.ownBlock = some b → v1.ownBlock = some b ∨ W.heap.size ≤ b) : TwoO B e1 e2 K1 K2 v' n' c' v2 n2 c2 P W0 W' := by
  have hne : v2.ownBlock = none ∨ v2.ownBlock ≠ v1.ownBlock := by
    cases hv2 : v2.ownBlock with
    | none => exact .inl rfl
    | some k => exact .inr fun e => h.ne k e.symm hv2
  refine ⟨ho, h.b.kept hg hne, fun k h1 h2 => ?_, fun k o hp => ?_, h.bel.grown hg h.hB (fun k hk => (h.a.lt k hk).1), by have := h.hB; have := hg.size; omega⟩
  · rcases hf k h1 with h3 | h3
    · exact h.ne k h3 h2
    · have := (h.b.lt k h2).2; omega
  · obtain ⟨p1, p2, p3⟩ := h.pr k o hp
    have hk := (Array.getElem?_eq_some_iff.1 p1).1
    refine ⟨(hg.block k hk (fun e => p2 e.symm)).trans p1, fun e => ?_, p3⟩
    rcases hf k e with h3 | h3
    · exact p2 h3
    · omega

/-- One of the two rows grows by what a guarded block holds: one step of a region that draws. -/
theorem step_two {P : Program} {ops : Array Oper} {o : Oper} {a : Act} {w : World} {K : Act → World → Prop} {Q : Exit → Act → World → Prop} {E : Prop} (hg : o.guard = none) (s x : Operand) (t : TypeId)
    (ho : o.op = .call { callee := .builtin .append, args := #[s, x], argTypes := #[t, t] })
    (B : Nat) (e1 : TypeId) (i : TypeInfo) (z : Value) (K1 bytes : Nat) (ht : P.underlying t = some (.slice e1)) (hi : P.info? e1 = some i) (hz : i.zero = some z)
    (hsize : i.size = K1) (hby : i.bytes = bytes) (hzs : z.cells.size = K1) (hsz : 0 < K1)
    {v1 : Value} {n1 : Nat} {c1 : List Value} {e2 : TypeId} {K2 : Nat} {v2 : Value} {n2 : Nat} {c2 : List Value} {G : Nat → Obj → Prop} {W0 : World}
    (hs : a.eval s = v1) (bx c : Nat) (news : Array Value) (tb : TypeId) (hx : a.eval x = .slice (some ⟨bx, 0, none⟩) 1 c) (hl : news.size = K1) (h1 : ∀ u ∈ news.toList, u.oneCell' = true) (hn : n1 ≤ 1000000) (hbb : bytes ≤ 1000)
    (hT : TwoO B e1 e2 K1 K2 v1 n1 c1 v2 n2 c2 G W0 w) (hbx : G bx (.cells news tb))
    (h : ∀ v' w', TwoO B e1 e2 K1 K2 v' (n1 + 1) (c1 ++ news.toList) v2 n2 c2 G W0 w' → (∃ A c, v' = .slice A (n1 + 1) c) → K (a.put o.dst v') w') :
    if Region.wanted o (yielded ops a.tmps) = true then Oper.wp P o a w K Q else E := by
  have hb := (hT.pr _ _ hbx).1
  have hby2 : (n1 + 1) * bytes ≤ 140737488355328 := by
    have : (n1 + 1) * bytes ≤ 1000001 * 1000 := Nat.mul_le_mul (by omega) hbb
    omega
  refine step_append_own hg s x t ho B e1 i z K1 bytes ht hi hz hsize hby hzs hsz v1 n1 c1 hs hT.a ⟨bx, 0, none⟩ 1 c news.toList hx (by simp [hl]) (fun j u hu => ?_) h1 (by unfold maxLen; omega) hby2 hT.hB fun v' w' h2 h3 h4 => h v' w' (hT.app h2 h3 h4) (ownsRow_slice h2)
  rw [addr_add, Nat.zero_add]
  have := cell_of_row w bx j _ _ _ hb
  rw [this]
  simpa using hu


theorem TwoO.bare (B : Nat) (e1 e2 : TypeId) (K1 K2 : Nat) (W : World) (h : B ≤ W.heap.size) : TwoO B e1 e2 K1 K2 (.slice none 0 0) 0 [] (.slice none 0 0) 0 [] (fun _ _ => False) W W :=
  ⟨World.ownsRow_nil _ _ _ _, World.ownsRow_nil _ _ _ _, fun k hk => by simp [Value.ownBlock] at hk, fun k o hp => hp.elim, Below.refl _ _, h⟩
theorem RdK.cells {α : Type} {k : Nat} {f : α → List Value} {w : World} {S : Nat → Prop} {ad : Addr} {n cap : Nat} {xs : List α} (h : RdK k f w S (.slice (some ad) n cap) xs) (hf : ∀ x, (f x).length = k) (hk : 0 < k) :
    ∀ j u, (xs.flatMap f)[j]? = some u → w.cell? (ad.add j) = some u := by
  intro j u hu
  obtain ⟨A, c, he, _, _, h3⟩ := h
  have hne : xs ≠ [] := fun e => by subst e; simp at hu
  obtain ⟨b, off, rfl, _, hc⟩ := h3 hne
  simp only [Value.slice.injEq, Option.some.injEq] at he
  obtain ⟨rfl, _, _⟩ := he
  have hj := (List.getElem?_eq_some_iff.1 hu).1
  rw [flat_len hf] at hj
  have hi : j / k < xs.length := Nat.div_lt_of_lt_mul (by rw [Nat.mul_comm]; exact hj)
  have hx := List.getElem?_eq_getElem hi
  have hr : j % k < (f xs[j / k]).length := by rw [hf]; exact Nat.mod_lt _ hk
  have hu2 := List.getElem?_eq_getElem hr
  have hat := flat_at hf xs _ _ hx _ _ hu2
  have hjk : j / k * k + j % k = j := by rw [Nat.mul_comm]; exact Nat.div_add_mod j k
  rw [hjk, hu] at hat
  obtain rfl := Option.some.inj hat
  have := hc _ _ hx _ _ hu2
  rw [addr_add, ← this, Nat.add_assoc, hjk]
theorem info38 : (Tryz.prog.info? 79).map (fun i => (i.zero, i.size, i.bytes)) = some (some (.agg #[.int .i64 0, .int .i64 0, .int .i64 0]), 3, 24) := by kernel_rfl
theorem jobC_one (xs : List JobD) : ∀ u ∈ xs.flatMap jobC, u.oneCell' = true := fun u hu => by
  obtain ⟨x, _, h⟩ := List.mem_flatMap.1 hu
  simp [jobC] at h
  rcases h with rfl | rfl | rfl <;> rfl
end Go.Proofs.YtogccnngdfancaaGreat
namespace Go.Proofs.YtogccnngdfancaaGreat
open Go.RowKit
set_option linter.unusedVariables false
set_option linter.unusedSimpArgs false
end Go.Proofs.YtogccnngdfancaaGreat
namespace Go.Proofs.YtogccnngdfancaaGreat
open Go.RowKit
set_option linter.unusedVariables false
/-- All cells of a slice's own block are of a kind. -/
def OwnAll (R : Value → Prop) (w : World) (v : Value) : Prop := ∀ g, v.ownBlock = some g → ∀ i u, w.cell? ⟨g, i, none⟩ = some u → R u
theorem cells_R {R : Value → Prop} {w : World} {g t : Nat} {m : Nat × Nat} {C : Array Value} (h : w.heap[g]? = some (.cells C t m)) (hR : ∀ u ∈ C, R u) : ∀ i u, w.cell? ⟨g, i, none⟩ = some u → R u := by
  intro i u hu
  have h1 : w.cell? ⟨g, i, none⟩ = C[i]? := by unfold World.cell?; simp only [h]; rfl
  rw [h1] at hu
  exact hR u (Array.mem_of_getElem? hu)
theorem zeroCells_mem {z : Array Value} {n : Nat} {u : Value} (h : u ∈ Builtin.zeroCells z n) : u ∈ z := by
  unfold Builtin.zeroCells at h
  simp at h
  obtain ⟨k, h1, h2⟩ := h
  by_cases h0 : z.size = 0
  · rw [h0] at h1; omega
  · rw [← h2]
    have hm : k % z.size < z.size := Nat.mod_lt _ (by omega)
    rw [getElem!_pos z (k % z.size) hm]
    exact Array.getElem_mem hm
theorem append_all {P : Program} {w : World} {R : Value → Prop} {base : Nat} {t ty e : TypeId} {i : TypeInfo} {z : Value} (ht : P.underlying t = some (.slice e)) (hi : P.info? e = some i) (hz : i.zero = some z) (hzs : z.cells.size = i.size)
    {v : Value} {n : Nat} {xs : List Value} (hown : w.ownsRow base e i.size v n xs)
    {a : Addr} {m c : Nat} {news : List Value} (hm : 0 < m) (hl : news.length = m * i.size) (hnews : ∀ j u, news[j]? = some u → w.cell? (a.add j) = some u) (h1 : ∀ u ∈ news, u.oneCell' = true)
    (h63 : n + m ≤ maxLen) (hbytes : (n + m) * i.bytes ≤ 140737488355328)
    (hR : OwnAll R w v) (hN : ∀ u ∈ news, R u) (hZ : ∀ u ∈ z.cells, R u)
    {v' : Value} {w' : World} (hr : (Builtin.append_ #[t, t] ty #[v, .slice (some a) m c]).run P w = .ok v' w') : OwnAll R w' v' := by
  have hsmall : n + m ≤ 9223372036854775807 := by simp only [maxLen] at h63; omega
  have hgr : ∀ (k old : Nat) (W : World), v' = .slice (some ⟨W.heap.size, 0, none⟩) k old → ∀ C, w' = W.drew.alloc (.cells C e) → (∀ u ∈ C, R u) → OwnAll R w' v' := by
    intro k old W e1 C e2 hC g hg
    rw [e1] at hg
    simp only [Value.ownBlock, Option.some.injEq] at hg
    subst hg
    rw [e2]
    exact cells_R (heap_alloc_new W.drew _) hC
  have hxs : ∀ u ∈ xs, R u := by
    intro u hu
    obtain ⟨j, hj, rfl⟩ := List.getElem_of_mem hu
    rcases hown.2 with ⟨_, rfl⟩ | ⟨g, cap, cur, rfl, _, hg, _⟩
    · have := hown.1; rw [Nat.zero_mul] at this; omega
    · refine hR g rfl j _ ?_
      have := hown.cells (g := g) rfl j _ (List.getElem?_eq_getElem hj)
      rwa [addr_add, Nat.zero_add] at this
  rcases hown.2 with ⟨rfl, rfl⟩ | ⟨g, cap, cur, rfl, hbg, hg, hnc, hcm, hcs, htake⟩
  · have hq := run_append_nil (P := P) w t ty e i z ht hi hz a m c news hl hnews hm (by omega) (by have hb := hbytes; simp only [Nat.zero_add] at hb; omega)
    rw [hq] at hr
    simp only [Result.ok.injEq] at hr
    refine hgr _ _ w hr.1.symm _ hr.2.symm (fun u hu => ?_)
    rcases Array.mem_append.1 hu with h | h
    · exact hN u (by simpa using h)
    · exact hZ u (zeroCells_mem h)
  · by_cases hroom : n + m ≤ cap
    · have hfit : n * i.size + news.length ≤ cur.size := by rw [hl, hcs, ← Nat.add_mul]; exact Nat.mul_le_mul_right _ hroom
      have hq := run_append_room (P := P) w t ty e i ht hi g n cap cur hg a m c news hl hnews h1 hroom hfit
      rw [hq] at hr
      simp only [Result.ok.injEq] at hr
      have hcur : ∀ u ∈ cur, R u := by
        intro u hu
        obtain ⟨j, hj, rfl⟩ := Array.getElem_of_mem hu
        refine hR g rfl j _ ?_
        unfold World.cell?
        simp only [hg]
        exact Array.getElem?_eq_getElem hj
      intro g' hg'
      rw [← hr.1] at hg'
      simp only [Value.ownBlock, Option.some.injEq] at hg'
      subst hg'
      rw [← hr.2]
      refine cells_R (setRow_heap w g cur _ e _ hg) (fun u hu => ?_)
      simp only [List.mem_toArray, List.mem_append] at hu
      rcases hu with (h | h) | h
      · exact hcur u (by have := List.mem_of_mem_take h; simpa using this)
      · exact hN u h
      · exact hcur u (by have := List.mem_of_mem_drop h; simpa using this)
    · have holds : ∀ j u, xs[j]? = some u → w.cell? ((⟨g, 0, none⟩ : Addr).add j) = some u := hown.cells (g := g) rfl
      have hq := run_append_grow (P := P) w t ty e i z ht hi hz ⟨g, 0, none⟩ n cap xs hown.1 holds a m c news hl hnews (by omega) (by omega) (growslice_fits (by omega) hbytes)
      rw [hq] at hr
      simp only [Result.ok.injEq] at hr
      refine hgr _ _ w hr.1.symm _ hr.2.symm (fun u hu => ?_)
      simp only [Array.mem_append] at hu
      rcases hu with (h | h) | h
      · exact hxs u (by simpa using h)
      · exact hN u (by simpa using h)
      · exact hZ u (zeroCells_mem h)
end Go.Proofs.YtogccnngdfancaaGreat
namespace Go.Proofs.YtogccnngdfancaaGreat
end Go.Proofs.YtogccnngdfancaaGreat
namespace Go.Proofs.YtogccnngdfancaaGreat
open Go.RowKit
set_option linter.unusedVariables false
set_option linter.unusedSimpArgs false
def okK (d : WorksD) (k : Nat) : Bool := decide (1 ≤ cureOf d k) && (decide (cureOf d k ≤ 1000) && (decide (0 ≤ needOf d k) && decide (1 ≤ mouldOf d k)))
def okUp (d : WorksD) (n : Nat) : Bool := (List.range n).all (okK d)
theorem okUp_succ (d : WorksD) (n : Nat) : okUp d (n + 1) = (okUp d n && okK d n) := by unfold okUp; rw [List.range_succ, List.all_append]; simp
theorem okUp_no {d : WorksD} {k : Nat} (h : okK d k = false) : ∀ {n : Nat}, k < n → okUp d n = false
  | 0, hk => absurd hk (by omega)
  | n + 1, hk => by
    rw [okUp_succ]
    by_cases e : k = n
    · subst e; rw [h]; simp
    · rw [okUp_no h (by omega)]; rfl
def roomErr (r : Int) : List Int → Int
  | [] => 0
  | n :: l => if r < n then 4 else roomErr (r - n) l
def wErr (d : WorksD) : Int :=
  if d.presses < 1 ∨ 8 < d.presses ∨ d.change < 0 ∨ 1000 < d.change then 1
  else if d.cure.length ≠ d.need.length ∨ d.cure.length ≠ d.moulds.length ∨ 8 < d.cure.length then 4
  else if okUp d d.cure.length = false then 1
  else roomErr 64 d.need
theorem at_of {l : List Int} {k : Nat} {x : Int} (h : l[k]? = some x) : l.getD k 0 = x := by rw [List.getD_eq_getElem?_getD, h]; rfl
set_option maxRecDepth 100000 in
set_option maxHeartbeats 2000000 in
theorem wcheck_any (v : Value) (d : WorksD) (S : Nat → Prop) (w : World) (hv : WkV w S v d) :
    Calls Tryz.prog 24 #[v] w fun e w' => e = .returned (.int .i64 (wErr d)) ∧ Below w.heap.size w w' := by
  obtain ⟨vc, vn, vm, rfl, h1, h2, h3⟩ := hv.lt
  obtain ⟨Ac, nc, cc, rfl, hnc, -, hmc, hcc⟩ := h1.open_
  obtain ⟨An, nn, cn, rfl, hnn, -, hmn, hcn⟩ := h2.open_
  obtain ⟨Am, nm, cm, rfl, hnm, -, hmm, hcm⟩ := h3.open_
  have HW : Hid (wErr d = if d.presses < 1 ∨ 8 < d.presses ∨ d.change < 0 ∨ 1000 < d.change then 1 else if nc ≠ nn ∨ nc ≠ nm ∨ 8 < nc then 4 else if okUp d nc = false then 1 else roomErr 64 d.need) := by unfold wErr Hid; rw [hnc, hnn, hnm]
  obtain ⟨P, hP⟩ : ∃ P, P = d.presses := ⟨_, rfl⟩
  obtain ⟨C, hC⟩ : ∃ C, C = d.change := ⟨_, rfl⟩
  rw [← hP, ← hC] at HW ⊢
  obtain ⟨W1, hW1⟩ : ∃ W1, W1 = w.alloc (.cells #[.int .i64 P, .int .i64 C, .slice Ac nc cc, .slice An nn cn, .slice Am nm cm] 38) := ⟨_, rfl⟩
  have hm1 := heap_alloc_new w (.cells #[.int .i64 P, .int .i64 C, .slice Ac nc cc, .slice An nn cn, .slice Am nm cm] 38)
  have hb1 : Below w.heap.size w W1 := by rw [hW1]; exact (Below.refl _ w).alloc (Nat.le_refl _) _
  rw [← hW1] at hm1
  have x0 : W1.cell? ⟨w.heap.size, 0, none⟩ = some (.int .i64 P) := cell_of_row W1 _ 0 _ _ _ hm1
  have x1 : W1.cell? ⟨w.heap.size, 1, none⟩ = some (.int .i64 C) := cell_of_row W1 _ 1 _ _ _ hm1
  have x2 : W1.cell? ⟨w.heap.size, 2, none⟩ = some (.slice Ac nc cc) := cell_of_row W1 _ 2 _ _ _ hm1
  have x3 : W1.cell? ⟨w.heap.size, 3, none⟩ = some (.slice An nn cn) := cell_of_row W1 _ 3 _ _ _ hm1
  have x4 : W1.cell? ⟨w.heap.size, 4, none⟩ = some (.slice Am nm cm) := cell_of_row W1 _ 4 _ _ _ hm1
  have HW1 := Lib.hid hW1
  have HB1 := Lib.hid hb1
  have HCC := Lib.hid hcc
  have HCN := Lib.hid hcn
  have HCM := Lib.hid hcm
  have HNC := Lib.hid hnc
  have HNN := Lib.hid hnn
  have HNM := Lib.hid hnm
  clear hP hC hW1 hm1 hb1 hcc hcn hcm hnc hnn hnm h1 h2 h3 hv
  have hcase : ((P < 1 ∨ (1 ≤ P ∧ 8 < P) ∨ (1 ≤ P ∧ P ≤ 8 ∧ C < 0) ∨ (1 ≤ P ∧ P ≤ 8 ∧ 0 ≤ C ∧ 1000 < C)) ∧ wErr d = 1) ∨
      ((1 ≤ P ∧ P ≤ 8 ∧ 0 ≤ C ∧ C ≤ 1000) ∧ ((nc ≠ nn ∨ (nc = nn ∧ nc ≠ nm) ∨ (nc = nn ∧ nc = nm ∧ 8 < nc)) ∧ wErr d = 4)) ∨
      ((1 ≤ P ∧ P ≤ 8 ∧ 0 ≤ C ∧ C ≤ 1000) ∧ (nc = nn ∧ nc = nm ∧ nc ≤ 8) ∧ wErr d = if okUp d nc = false then 1 else roomErr 64 d.need) := by
    by_cases a : P < 1 ∨ 8 < P ∨ C < 0 ∨ 1000 < C
    · refine .inl ⟨by omega, ?_⟩
      rw [HW.out, if_pos a]
    · by_cases b : nc ≠ nn ∨ nc ≠ nm ∨ 8 < nc
      · refine .inr (.inl ⟨by omega, by omega, ?_⟩)
        rw [HW.out, if_neg a, if_pos b]
      · refine .inr (.inr ⟨by omega, by omega, ?_⟩)
        rw [HW.out, if_neg a, if_neg b]
  clear HW
  rcases hcase with ⟨h, hr⟩ | ⟨⟨a1, a2, a3, a4⟩, h, hr⟩ | ⟨⟨a1, a2, a3, a4⟩, ⟨rfl, rfl, h8⟩, hr⟩
  · have HR := Lib.hid hr
    clear hr
    rcases h with h | ⟨h1, h2⟩ | ⟨h1, h2, h3⟩ | ⟨h1, h2, h3, h4⟩
    all_goals
      go_enter Tryz.func24, Tryz.ntmps24
      go_wp2_with fail
      rw [← HW1.out]
      go_wp2_with fail
      go_ret
      exact ⟨by rw [HR.out]; rfl, HB1.out⟩
  · have HR := Lib.hid hr
    clear hr
    rcases h with h | ⟨h1, h2⟩ | ⟨h1, h2, h3⟩
    · have t1 : ((nc : Int) != (nn : Int)) = true := by rw [bne_iff_ne]; omega
      have t2 : (nc != nn) = true := by rw [bne_iff_ne]; omega
      go_enter Tryz.func24, Tryz.ntmps24
      go_wp2_with fail
      rw [← HW1.out]
      go_wp2_with fail
      go_ret
      exact ⟨by rw [HR.out]; rfl, HB1.out⟩
    · subst h1
      have t1 : ((nc : Int) != (nm : Int)) = true := by rw [bne_iff_ne]; omega
      have t2 : (nc != nm) = true := by rw [bne_iff_ne]; omega
      go_enter Tryz.func24, Tryz.ntmps24
      go_wp2_with fail
      rw [← HW1.out]
      go_wp2_with fail
      go_ret
      exact ⟨by rw [HR.out]; rfl, HB1.out⟩
    · subst h1
      subst h2
      have t3 : (8 : Int) < (nc : Int) := by omega
      go_enter Tryz.func24, Tryz.ntmps24
      go_wp2_with fail
      rw [← HW1.out]
      go_wp2_with fail
      go_ret
      exact ⟨by rw [HR.out]; rfl, HB1.out⟩
  · have HR := Lib.hid hr
    have h8' : ¬ ((8 : Int) < (nc : Int)) := by omega
    clear hr
    go_enter Tryz.func24, Tryz.ntmps24
    go_wp2_with fail
    rw [← HW1.out]
    go_wp2_with fail
    go_loop [53] (fun iv => ∃ i : Nat, i ≤ nc ∧ iv = .int .i64 (i : Int) ∧ okUp d i = true) (fun iv => nc - (intOf iv).toNat)
    case atStart => exact ⟨0, Nat.zero_le _, rfl, rfl⟩
    case round =>
      obtain ⟨i, hi, rfl, hup⟩ := hrel
      have HUP := Lib.hid hup
      clear hup
      by_cases hlt : i < nc
      · obtain ⟨b1, o1, c, hA1, _, hc, hcl1⟩ := HCC.out i hlt
        obtain ⟨b2, o2, n, hA2, _, hn, hcl2⟩ := HCN.out i hlt
        obtain ⟨b3, o3, m, hA3, _, hm, hcl3⟩ := HCM.out i hlt
        cases hA1
        cases hA2
        cases hA3
        have y1 := (HB1.out.cell (p := ⟨b1, _, none⟩) (World.block_lt_of_cell? w _ hcl1)).trans hcl1
        have y2 := (HB1.out.cell (p := ⟨b2, _, none⟩) (World.block_lt_of_cell? w _ hcl2)).trans hcl2
        have y3 := (HB1.out.cell (p := ⟨b3, _, none⟩) (World.block_lt_of_cell? w _ hcl3)).trans hcl3
        have hok : okK d i = (decide (1 ≤ c) && (decide (c ≤ 1000) && (decide (0 ≤ n) && decide (1 ≤ m)))) := by
          unfold okK cureOf needOf mouldOf
          rw [Int.toNat_natCast, at_of hc, at_of hn, at_of hm]
        have hw : ((c < 1 ∨ (1 ≤ c ∧ 1000 < c) ∨ (1 ≤ c ∧ c ≤ 1000 ∧ n < 0) ∨ (1 ≤ c ∧ c ≤ 1000 ∧ 0 ≤ n ∧ m < 1)) ∧ wErr d = 1) ∨ ((1 ≤ c ∧ c ≤ 1000 ∧ 0 ≤ n ∧ 1 ≤ m) ∧ okUp d (i + 1) = true) := by
          by_cases a : 1 ≤ c ∧ c ≤ 1000 ∧ 0 ≤ n ∧ 1 ≤ m
          · refine .inr ⟨a, ?_⟩
            rw [okUp_succ, HUP.out, hok]
            simp [a]
          · refine .inl ⟨by omega, ?_⟩
            have hf : okK d i = false := by rw [hok]; simp; omega
            rw [HR.out, if_pos (okUp_no hf hlt)]
        have hlti : (i : Int) < (nc : Int) := by omega
        clear hc hn hm hok hcl1 hcl2 hcl3
        rcases hw with ⟨h, hr⟩ | ⟨⟨k1, k2, k3, k4⟩, hu⟩
        · have HRR := Lib.hid hr
          clear hr
          rcases h with h | ⟨k1, k2⟩ | ⟨k1, k2, k3⟩ | ⟨k1, k2, k3, k4⟩
          all_goals
            go_wp2_with fail
            go_ret
            exact ⟨by rw [HRR.out]; rfl, HB1.out⟩
        · have HU := Lib.hid hu
          clear hu
          go_wp2_with fail
          go_round
          case rel => exact ⟨i + 1, by omega, by go_num, HU.out⟩
          case measure => simp [intOf]; omega
      · have HRR : Hid (wErr d = roomErr 64 d.need) := by
          have hin : i = nc := by omega
          show _ = _
          rw [HR.out, if_neg (by rw [← hin, HUP.out]; simp)]
        have hlti : ¬ ((i : Int) < (nc : Int)) := by omega
        have HN0 : Hid (∀ k n, d.need[k]? = some n → k < nc → 0 ≤ n) := fun k n hn hk => by
          have hin : i = nc := by omega
          cases hq : okK d k with
          | false => have := okUp_no hq hk; rw [← hin, HUP.out] at this; cases this
          | true =>
            unfold okK needOf at hq
            rw [Int.toNat_natCast, at_of hn] at hq
            simp only [Bool.and_eq_true, decide_eq_true_eq] at hq
            exact hq.2.2.1
        clear HR HUP
        go_wp2_with fail
        go_loop [5, 84] (fun rv iv => ∃ (k : Nat) (r : Int), k ≤ nc ∧ iv = .int .i64 (k : Int) ∧ rv = .int .i64 r ∧ 0 ≤ r ∧ r ≤ 64 ∧ wErr d = roomErr r (d.need.drop k)) (fun _ iv => nc - (intOf iv).toNat)
        case atStart => exact ⟨0, 64, Nat.zero_le _, rfl, rfl, by omega, by omega, HRR.out⟩
        case round =>
          obtain ⟨k, r, hk, rfl, rfl, r0, r64, hr⟩ := hrel
          by_cases hltk : k < nc
          · obtain ⟨b2, o2, n, hA2, _, hn, hcl2⟩ := HCN.out k hltk
            cases hA2
            have y2 := (HB1.out.cell (p := ⟨b2, _, none⟩) (World.block_lt_of_cell? w _ hcl2)).trans hcl2
            rw [List.drop_eq_getElem_cons (List.getElem?_eq_some_iff.1 hn).1, (List.getElem?_eq_some_iff.1 hn).2] at hr
            simp only [roomErr] at hr
            have hlk : (k : Int) < (nc : Int) := by omega
            have hn0 := HN0.out k n hn hltk
            clear hcl2 hn
            by_cases hrn : r < n
            · rw [if_pos hrn] at hr
              have HR := Lib.hid hr
              clear hr
              go_wp2_with fail
              go_ret
              exact ⟨by rw [HR.out]; rfl, HB1.out⟩
            · rw [if_neg hrn] at hr
              have HR := Lib.hid hr
              clear hr
              go_wp2_with fail
              go_round
              case rel => exact ⟨k + 1, r - n, by omega, by go_num, rfl, by omega, by omega, HR.out⟩
              case measure => simp [intOf]; omega
          · have hkn : d.need.drop k = [] := List.drop_eq_nil_of_le (by have := HNN.out; omega)
            rw [hkn] at hr
            have HR := Lib.hid hr
            have hlk : ¬ ((k : Int) < (nc : Int)) := by omega
            clear hr hkn
            go_wp2_with fail
            go_ret
            exact ⟨by rw [HR.out]; rfl, HB1.out⟩
end Go.Proofs.YtogccnngdfancaaGreat
