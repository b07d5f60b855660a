/- Plan in plain words. -/
import Derived.Test.YtogccnngdfancaaPlanP
import Derived.Test.YtogccnngdfancaaBd
namespace Go.Proofs.Ytogccnngdfancaa
set_option linter.unusedVariables false
def at0 (m : List Int) (k : Int) : Int := m.getD k.toNat 0
/-- The kind with the most work left. -/
def pickS (d : WorksD) (m : List Int) (kd : Int) (k : Nat) : Int := if 0 < at0 m k ∧ (kd < 0 ∨ at0 m kd * cureOf d kd < at0 m k * cureOf d k) then (k : Int) else kd
def pickN (d : WorksD) (m : List Int) : Nat → Int
  | 0 => -1
  | n + 1 => pickS d m (pickN d m n) n
theorem pickN_bd (d : WorksD) (m : List Int) : ∀ n, -1 ≤ pickN d m n ∧ pickN d m n < n
  | 0 => by simp [pickN]
  | n + 1 => by
    have := pickN_bd d m n
    simp only [pickN, pickS]
    split <;> omega
theorem pickN_pos (d : WorksD) (m : List Int) : ∀ n, 0 ≤ pickN d m n → 0 < at0 m (pickN d m n)
  | 0, h => by simp [pickN] at h
  | n + 1, h => by
    simp only [pickN, pickS] at h ⊢
    split
    · rename_i hh; exact hh.1
    · rename_i hh; rw [if_neg hh] at h; exact pickN_pos d m n h
theorem pickN_neg (d : WorksD) (m : List Int) : ∀ n, pickN d m n < 0 → ∀ k : Nat, k < n → at0 m k ≤ 0
  | 0, _, k, hk => absurd hk (by omega)
  | n + 1, h, k, hk => by
    simp only [pickN, pickS] at h
    split at h
    · omega
    · rename_i hh
      by_cases e : k = n
      · subst e
        refine Int.not_lt.1 fun hp => hh ⟨hp, .inl h⟩
      · exact pickN_neg d m n h k (by omega)
/-- The press at which it can start first. -/
def bestN (d : WorksD) (l : List JobD) (kind : Int) : Nat → JobD
  | 0 => ⟨0, kind, earlP d l 0 kind⟩
  | n + 1 => if earlP d l ((n : Int) + 1) kind < (bestN d l kind n).start then ⟨(n : Int) + 1, kind, earlP d l ((n : Int) + 1) kind⟩ else bestN d l kind n
theorem bestN_is (d : WorksD) (l : List JobD) (kind : Int) : ∀ (n : Nat), ∃ p : Int, 0 ≤ p ∧ p ≤ n ∧ bestN d l kind n = ⟨p, kind, earlP d l p kind⟩
  | 0 => ⟨0, by simp [bestN]⟩
  | n + 1 => by
    obtain ⟨p, h1, h2, h3⟩ := bestN_is d l kind n
    simp only [bestN]
    split
    · exact ⟨(n : Int) + 1, by omega, by omega, rfl⟩
    · exact ⟨p, h1, by omega, h3⟩
def planStep (d : WorksD) (s : List Int × List JobD) : List Int × List JobD :=
  let kd := pickN d s.1 s.1.length
  (s.1.set kd.toNat (at0 s.1 kd - 1), s.2 ++ [bestN d s.2 kd (d.presses - 1).toNat])
def planI (d : WorksD) : Nat → List Int × List JobD
  | 0 => (d.need, [])
  | n + 1 => planStep d (planI d n)
def planW (d : WorksD) : List JobD := (planI d d.need.sum.toNat).2
theorem sum_set : ∀ (m : List Int) (k : Nat) (x : Int), k < m.length → (m.set k x).sum = m.sum - at0 m k + x
  | [], k, x, h => by simp at h
  | y :: m, 0, x, h => by simp [at0]; omega
  | y :: m, k + 1, x, h => by
    have := sum_set m k x (by simpa using h)
    simp [at0] at this ⊢
    omega
theorem sum_nonneg : ∀ (m : List Int), (∀ x ∈ m, 0 ≤ x) → 0 ≤ m.sum
  | [], _ => by simp
  | y :: m, h => by
    have h1 := h y (List.mem_cons_self ..)
    have h2 := sum_nonneg m (fun x hx => h x (List.mem_cons_of_mem _ hx))
    simp; omega
theorem sum_zero : ∀ (m : List Int), (∀ x ∈ m, 0 ≤ x) → (∀ k : Nat, k < m.length → at0 m k ≤ 0) → m.sum = 0
  | [], _, _ => by simp
  | y :: m, h, h' => by
    have h1 := h y (List.mem_cons_self ..)
    have h2 := h' 0 (by simp)
    have h3 := sum_zero m (fun x hx => h x (List.mem_cons_of_mem _ hx)) (fun k hk => by have := h' (k + 1) (by simpa using hk); simpa [at0] using this)
    simp [at0] at h2
    simp; omega
theorem at0_mem {m : List Int} {k : Nat} (h : k < m.length) : at0 m k ∈ m := by
  unfold at0
  rw [Int.toNat_natCast, List.getD_eq_getElem?_getD, List.getElem?_eq_getElem h]
  exact List.getElem_mem _
/-- How far things have gone. -/
structure PlanInv (d : WorksD) (k : Nat) (m : List Int) (l : List JobD) : Prop where
  st : planI d k = (m, l)
  ml : m.length = d.cure.length
  mr : ∀ x ∈ m, 0 ≤ x ∧ x ≤ 64
  sum : m.sum + k = d.need.sum
  ll : l.length = k
  kinds : ∀ y ∈ l, 0 ≤ y.kind ∧ y.kind < d.cure.length
  press : ∀ y ∈ l, 0 ≤ y.press ∧ y.press < d.presses
  starts : ∀ y ∈ l, 0 ≤ y.start
  ends : ∀ y ∈ l, endJ d y ≤ 2000 * k
theorem room_sum : ∀ (l : List Int) (r : Int), roomErr r l = 0 → 0 ≤ r → l.sum ≤ r
  | [], r, _, h => by simpa using h
  | n :: l, r, h, h0 => by
    simp only [roomErr] at h
    split at h
    · cases h
    · have := room_sum l (r - n) h (by omega)
      simp; omega
theorem need_mem {d : WorksD} (hg : WGood d) : ∀ x ∈ d.need, 0 ≤ x ∧ x ≤ 64 := fun x hx => by
  obtain ⟨k, hk⟩ := List.mem_iff_getElem?.1 hx
  have hlt := (List.getElem?_eq_some_iff.1 hk).1
  have h1 := hg.ok.need k (by rw [← hg.ok.n1]; exact hlt)
  have h2 := hg.n64 k (by rw [← hg.ok.n1]; exact hlt)
  have : needOf d k = x := by unfold needOf; rw [Int.toNat_natCast, at_of hk]
  rw [this] at h1 h2
  exact ⟨h1, h2⟩
theorem planInv0 {d : WorksD} (hg : WGood d) : PlanInv d 0 d.need [] :=
  ⟨rfl, hg.ok.n1, need_mem hg, by simp, rfl, (fun y h => by cases h), (fun y h => by cases h), (fun y h => by cases h), (fun y h => by cases h)⟩
theorem PlanInv.len {d : WorksD} (hg : WGood d) {k : Nat} {m : List Int} {l : List JobD} (h : PlanInv d k m l) : k ≤ 64 := by
  have h1 := room_sum d.need 64 hg.room (by omega)
  have h2 := sum_nonneg m (fun x hx => (h.mr x hx).1)
  have := h.sum
  omega
theorem PlanInv.jobs {d : WorksD} (hg : WGood d) {k : Nat} {m : List Int} {l : List JobD} (h : PlanInv d k m l) : JobsOk d l :=
  ⟨h.kinds, fun y hy => ⟨h.starts y hy, by
    have h1 := h.ends y hy
    have h2 := h.len hg
    have h3 := hg.ok.cure y.kind.toNat (by have := h.kinds y hy; omega)
    rw [show ((y.kind.toNat : Nat) : Int) = y.kind by have := h.kinds y hy; omega] at h3
    unfold endJ at h1
    omega⟩⟩
theorem frm_le {d : WorksD} (hc : 0 ≤ d.change) {press kind M : Int} (hM : 0 ≤ M) : ∀ (l : List JobD) (f : Int), 0 ≤ f → f ≤ M + d.change → (∀ y ∈ l, 0 ≤ endJ d y ∧ endJ d y ≤ M) → 0 ≤ l.foldl (frmS d press kind) f ∧ l.foldl (frmS d press kind) f ≤ M + d.change
  | [], f, h1, h2, _ => ⟨h1, h2⟩
  | x :: l, f, h1, h2, h3 => by
    have hx := h3 x (List.mem_cons_self ..)
    refine frm_le hc hM l _ ?_ ?_ (fun y hy => h3 y (List.mem_cons_of_mem _ hy))
    · unfold frmS; split <;> (try split) <;> omega
    · unfold frmS; split <;> (try split) <;> omega
theorem earl_bd {d : WorksD} (hg : WGood d) {k : Nat} {m : List Int} {l : List JobD} (h : PlanInv d k m l) {p kind : Int} (h0 : 0 ≤ kind) (h1 : kind < d.cure.length) : 0 ≤ earlP d l p kind ∧ earlP d l p kind ≤ 2000 * k + d.change := by
  have hc := hg.ok.cure kind.toNat (by omega)
  have hm := hg.ok.mould kind.toNat (by omega)
  rw [show ((kind.toNat : Nat) : Int) = kind by omega] at hc hm
  have hE := earlP_earliest (d := d) (l := l) (press := p) (kind := kind) hc.1 hm
  have hends : ∀ y ∈ l, 0 ≤ endJ d y ∧ endJ d y ≤ 2000 * k := fun y hy => by
    have h3 := hg.ok.cure y.kind.toNat (by have := h.kinds y hy; omega)
    rw [show ((y.kind.toNat : Nat) : Int) = y.kind by have := h.kinds y hy; omega] at h3
    refine ⟨?_, h.ends y hy⟩
    have := h.starts y hy
    unfold endJ; omega
  have hf := frm_le (d := d) hg.ok.c0 (press := p) (kind := kind) (M := 2000 * k) (by omega) l 0 (by omega) (by have := hg.ok.c0; omega) hends
  have hf' : 0 ≤ frmP d l p kind ∧ frmP d l p kind ≤ 2000 * k + d.change := hf
  refine ⟨by have := hE.le; omega, ?_⟩
  rcases mem_cands.1 hE.cand with e | ⟨_, y, hy, _, e⟩
  · rw [e]; exact hf'.2
  · rw [← e]; have := hends y hy; have := hg.ok.c0; omega
theorem PlanInv.step {d : WorksD} (hg : WGood d) {k : Nat} {m : List Int} {l : List JobD} (h : PlanInv d k m l) (hp : 0 ≤ pickN d m m.length) :
    PlanInv d (k + 1) (m.set (pickN d m m.length).toNat (at0 m (pickN d m m.length) - 1)) (l ++ [bestN d l (pickN d m m.length) (d.presses - 1).toNat]) := by
  obtain ⟨kd, hkd⟩ : ∃ kd, kd = pickN d m m.length := ⟨_, rfl⟩
  have hb := pickN_bd d m m.length
  have hpos := pickN_pos d m m.length hp
  rw [← hkd] at hb hp hpos ⊢
  have hlt : kd.toNat < m.length := by omega
  have hmem := at0_mem hlt
  rw [show ((kd.toNat : Nat) : Int) = kd by omega] at hmem
  have hk1 : kd < d.cure.length := by have := h.ml; omega
  obtain ⟨p, p1, p2, p3⟩ := bestN_is d l kd (d.presses - 1).toNat
  have hpr := hg.ok.p1
  have hc := hg.ok.cure kd.toNat (by have := h.ml; omega)
  rw [show ((kd.toNat : Nat) : Int) = kd by omega] at hc
  have he := earl_bd hg h (p := p) hp hk1
  refine ⟨?_, by rw [List.length_set]; exact h.ml, fun x hx => ?_, ?_, by simp [h.ll], fun y hy => ?_, fun y hy => ?_, fun y hy => ?_, fun y hy => ?_⟩
  · show planStep d (planI d k) = _
    rw [h.st]
    unfold planStep
    simp only [← hkd]
  · rcases List.mem_or_eq_of_mem_set hx with hx | rfl
    · exact h.mr x hx
    · have := h.mr _ hmem; omega
  · rw [sum_set m _ _ hlt]
    have := h.sum
    rw [show at0 m ((kd.toNat : Nat) : Int) = at0 m kd by rw [show ((kd.toNat : Nat) : Int) = kd by omega]]
    omega
  · rcases List.mem_append.1 hy with hy | hy
    · exact h.kinds y hy
    · obtain rfl := List.mem_singleton.1 hy; rw [p3]; exact ⟨hp, hk1⟩
  · rcases List.mem_append.1 hy with hy | hy
    · exact h.press y hy
    · obtain rfl := List.mem_singleton.1 hy; rw [p3]; exact ⟨p1, by show p < _; omega⟩
  · rcases List.mem_append.1 hy with hy | hy
    · exact h.starts y hy
    · obtain rfl := List.mem_singleton.1 hy; rw [p3]; exact he.1
  · rcases List.mem_append.1 hy with hy | hy
    · have := h.ends y hy; omega
    · obtain rfl := List.mem_singleton.1 hy; rw [p3]
      show earlP d l p kd + cureOf d kd ≤ _
      have := hg.ok.c1
      omega
theorem PlanInv.done {d : WorksD} (hg : WGood d) {k : Nat} {m : List Int} {l : List JobD} (h : PlanInv d k m l) (hp : pickN d m m.length < 0) : l = planW d := by
  have h1 := sum_zero m (fun x hx => (h.mr x hx).1) (pickN_neg d m m.length hp)
  have h2 := h.sum
  have : d.need.sum.toNat = k := by omega
  unfold planW
  rw [this, h.st]
end Go.Proofs.Ytogccnngdfancaa
