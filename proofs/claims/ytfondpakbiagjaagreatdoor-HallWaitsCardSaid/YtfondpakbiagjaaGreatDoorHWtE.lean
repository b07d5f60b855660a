/- The walk of Waiting. The walk of Waiting (2). -/
import Derived.Test.YtfondpakbiagjaaGreatDoorHWtC
import Derived.Test.YtfondpakbiagjaaGreatDoorHWtR
namespace Go.Proofs.YtfondpakbiagjaaGreatDoor
open Go.RowKit
set_option linter.unusedVariables false
set_option linter.unusedSimpArgs false
set_option maxRecDepth 100000
set_option maxHeartbeats 4000000
/-- The lines of stations. -/
def chs (cs : List Nat) (l : List Nat) : List Nat := l.map fun s => cs.getD s 0
theorem chs_snoc {cs l : List Nat} {c : Nat} (h : ∀ s ∈ l, s < cs.length) : chs (cs ++ [c]) l = chs cs l := by
  unfold chs
  refine List.map_congr_left fun s hs => ?_
  rw [List.getD_eq_getElem?_getD, List.getD_eq_getElem?_getD, List.getElem?_append_left (h s hs)]
theorem chs_new {cs : List Nat} {c : Nat} : (cs ++ [c]).getD cs.length 0 = c := by simp
def selK (need : List Int) (k : Nat) : List Nat := (List.range k).filter fun (s : Nat) => need.contains (s : Int)
theorem selK_lt {need : List Int} {k s : Nat} (h : s ∈ selK need k) : s < k := List.mem_range.1 (List.mem_filter.1 h).1
theorem selK_yes {need : List Int} {k : Nat} (h : need.contains (k : Int) = true) : selK need (k + 1) = selK need k ++ [k] := by
  unfold selK
  rw [List.range_succ, List.filter_append, List.filter_cons, if_pos h]; rfl
theorem selK_no {need : List Int} {k : Nat} (h : need.contains (k : Int) = false) : selK need (k + 1) = selK need k := by
  unfold selK
  rw [List.range_succ, List.filter_append, List.filter_cons, if_neg (by rw [h]; decide)]; simp
theorem selK_32 (need : List Int) : selK need 32 = missL need [] := by
  unfold selK missL
  refine List.filter_congr fun s _ => by simp
/-- The numbers of the lines. -/
def numL (cs : List Nat) : List (Nat × Nat) := cs.zipIdx.map fun p => (p.2, p.1)
theorem numL_snoc (cs : List Nat) (c : Nat) : numL (cs ++ [c]) = numL cs ++ [(cs.length, c)] := by
  unfold numL
  rw [List.zipIdx_append, List.map_append]; simp
theorem numL_at {cs : List Nat} {q c : Nat} (h : cs[q]? = some c) : (numL cs)[q]? = some (q, c) := by
  unfold numL
  rw [List.getElem?_map, List.getElem?_zipIdx, h]; simp
theorem numL_len (cs : List Nat) : (numL cs).length = cs.length := by unfold numL; simp
theorem numL_mem {cs : List Nat} {p : Nat × Nat} (h : p ∈ numL cs) : p.2 ∈ cs := by
  obtain ⟨q, hq⟩ := List.getElem?_of_mem h
  have hl := (List.getElem?_eq_some_iff.1 hq).1
  rw [numL_len] at hl
  have := numL_at (List.getElem?_eq_getElem hl)
  rw [hq] at this
  injection this with this
  rw [this]
  exact List.getElem_mem hl
/-- A line struck off. -/
theorem kp_chs {cs : List Nat} (hnd : cs.Nodup) {n c : Nat} (hc : cs[n]? = some c) : ∀ {l : List Nat}, (∀ s ∈ l, s < cs.length) → kpC c (chs cs l) = chs cs (l.filter fun s => !(s == n))
  | [], _ => rfl
  | s :: l, h => by
    have ih := kp_chs hnd hc (l := l) fun q hq => h q (List.mem_cons_of_mem _ hq)
    have hs := h s (List.mem_cons_self ..)
    have hg : cs.getD s 0 = cs[s] := by rw [List.getD_eq_getElem?_getD, List.getElem?_eq_getElem hs]; rfl
    obtain ⟨hn1, hn2⟩ := List.getElem?_eq_some_iff.1 hc
    unfold kpC chs at ih ⊢
    rw [List.map_cons, List.filter_cons, List.filter_cons, ih]
    by_cases he : s = n
    · subst he
      rw [if_neg (by rw [hg, hn2]; simp), if_neg (by simp)]
    · have : cs[s] ≠ c := fun e => he ((List.getElem_inj hnd).1 (e.trans hn2.symm))
      rw [if_pos (by rw [hg]; simpa using this), if_pos (by simpa using he), List.map_cons]
theorem miss_step {need l : List Int} {z : Int} {n : Nat} (hz : z = (n : Int)) : missL need (l ++ [z]) = (missL need l).filter fun s => !(s == n) := by
  rw [miss_snoc]
  refine List.filter_congr fun s _ => ?_
  subst hz
  rcases Decidable.em (s = n) with rfl | h
  · simp
  · have h2 : ¬ ((s : Int) = (n : Int)) := by omega
    simp [h, h2]
end Go.Proofs.YtfondpakbiagjaaGreatDoor
namespace Go.Proofs.YtfondpakbiagjaaGreatDoor
open Go.RowKit
set_option linter.unusedVariables false
set_option linter.unusedSimpArgs false
set_option maxRecDepth 100000
set_option maxHeartbeats 4000000
theorem clone_own (v : Value) (l : List Int) (S : Nat → Prop) (w : World) (hv : Rd (Value.int .i64) w S v l) (hl : l.length ≤ 1000) :
    Calls Tryz.prog 41 #[v] w fun e w' => (∃ A c, e = .returned (.slice A l.length c) ∧ OwnI w' w.heap.size (.slice A l.length c) l) ∧ Below w.heap.size w w' := by
  obtain ⟨A, cap, rfl, h1, h2, h3⟩ := hv
  cases A with
  | none =>
    have hl0 : l = [] := by
      cases l with
      | nil => rfl
      | cons z l => obtain ⟨b, off, hbo, -⟩ := h3 (by simp); cases hbo
    subst hl0
    refine (Tryz.slices_Clone_int_nil 0 cap w).mono ?_
    rintro e w' ⟨rfl, rfl⟩
    exact ⟨⟨_, _, rfl, OwnI.nil _ _⟩, Below.refl _ _⟩
  | some a =>
    cases l with
    | nil =>
      refine (Tryz.slices_Clone_int_zero a cap w).mono ?_
      rintro e w' ⟨v', rfl, ho, -, hb⟩
      obtain ⟨A', c', rfl⟩ := ownsRow_slice ho
      exact ⟨⟨A', c', rfl, ho⟩, hb⟩
    | cons z l =>
      obtain ⟨b, off, hbo, hb, hc⟩ := h3 (by simp)
      injection hbo with hbo
      subst hbo
      refine (Tryz.slices_Clone_int b off (z :: l).length cap (z :: l) w (Nat.le_refl _) (by omega) (fun j hj => by rw [hc j hj, getD_of (List.getElem?_eq_getElem hj)])).mono ?_
      rintro e w' ⟨v', rfl, ho, -, hb⟩
      rw [List.take_length] at ho
      obtain ⟨A', c', rfl⟩ := ownsRow_slice ho
      exact ⟨⟨A', c', rfl, ho⟩, hb⟩
theorem enter_w1 {f : FuncId} {fn : Func} {c : Code} (hf : Tryz.prog.funcs[f]? = some fn) (hname : (fn.name == "runtime.NumGoroutine") = false) (hb : fn.body = some c) (args : Array Value) (w : World) : (callFunc f args).run Tryz.prog w = .ok (.enter f args) w := by
  have h1 : fn.name ≠ "runtime.NumGoroutine" := by simpa using hname
  simp [callFunc, hf, h1, hb]
/-- Whether a number is no station. -/
theorem outside_any (v : Value) (l : List Int) (S : Nat → Prop) (w : World) (hv : Rd (Value.int .i64) w S v l) :
    Calls Tryz.prog 40 #[v, .func (.func 42) #[] #[]] w fun e w' => (∃ b : Bool, e = .returned (.bool b) ∧ (b = false ↔ okSt l)) ∧ Below w.heap.size w w' := by
  have hv' : Rd id w S v (l.map (Value.int .i64)) := by
    obtain ⟨A, cap, rfl, h1, h2, h3⟩ := hv
    refine ⟨A, cap, by rw [List.length_map], by rw [List.length_map]; exact h1, h2, fun hne => ?_⟩
    obtain ⟨b, off, rfl, hb, hc⟩ := h3 (fun e => hne (by rw [e]; rfl))
    exact ⟨b, off, rfl, hb, fun i hi => by rw [hc i (by simpa using hi)]; simp⟩
  refine (containsFuncI_any v _ S 42 #[] (fun args w => enter_w1 (fn := Tryz.f42) (by kernel_rfl) rfl rfl args w) (fun i => !(decide (0 ≤ l.getD i 0) && decide (l.getD i 0 ≤ 31))) w hv' (fun i u hu w' hw' => ?_)).mono ?_
  · rw [List.getElem?_map] at hu
    obtain ⟨z, hz, rfl⟩ := Option.map_eq_some_iff.1 hu
    rw [getD_of hz]
    refine (out1_any z w').mono ?_
    rintro e w'' ⟨rfl, rfl⟩
    exact ⟨rfl, Below.refl _ _⟩
  · rintro e w' ⟨rfl, hb⟩
    refine ⟨⟨_, rfl, ?_⟩, hb⟩
    unfold anyIdx okSt
    rw [List.any_eq_false, List.length_map]
    constructor
    · intro h z hz
      obtain ⟨i, hi⟩ := List.getElem?_of_mem hz
      have := h i (List.mem_range.2 (List.getElem?_eq_some_iff.1 hi).1)
      rw [getD_of hi] at this
      simpa using this
    · intro h i hi
      have hil := List.mem_range.1 hi
      have := h _ (List.getElem_mem hil)
      rw [getD_of (List.getElem?_eq_getElem hil)]
      simpa using this
end Go.Proofs.YtfondpakbiagjaaGreatDoor
