/- An append to a row of the call's own: the new row is the old one, or lies in a new block. The walks of slices.Clone and of plant.copied. The walk of the reference's Order. The walk of the reference's Order (all inputs). -/
import Derived.Test.YtodckaioeomccaaGreatPart02
import Derived.Deep.RegionLaw
import Derived.Deep.RegionWith
import Derived.Test.YtodckaioeomccaaGreatPart07
import Derived.WalkKit
namespace Go.Proofs.YtodckaioeomccaaGreat
open Go.RowKit

theorem append_fresh {P : Program} (w : World) (base : Nat) (t ty e : TypeId) (i : TypeInfo) (z : Value) (size bytes : Nat) (ht : P.underlying t = some (.slice e)) (hi : P.info? e = some i) (hz : i.zero = some z)
    (hsize : i.size = size) (hby : i.bytes = bytes) (hzs : z.cells.size = size) (hsz : 0 < size)
    (v : Value) (n : Nat) (xs : List Value) (hown : w.ownsRow base e size v n xs)
    (a : Addr) (m c : Nat) (news : List Value) (hl : news.length = m * size) (hnews : ∀ j u, news[j]? = some u → w.cell? (a.add j) = some u) (h1 : ∀ u ∈ news, u.oneCell' = true)
    (h63 : n + m ≤ maxLen) (hbytes : (n + m) * bytes ≤ 140737488355328) (hbase : base ≤ w.heap.size) :
    ∃ v' w', (Builtin.append_ #[t, t] ty #[v, .slice (some a) m c]).run P w = .ok v' w' ∧ w'.ownsRow base e size v' (n + m) (xs ++ news) ∧ w.grownBy w' v.ownBlock ∧
      (∀ b, v'.ownBlock = some b → v.ownBlock = some b ∨ w.heap.size ≤ b) := by
  obtain ⟨v', w', hr, ho, hg, _⟩ := run_append_own (P := P) w base t ty e i z size bytes ht hi hz hsize hby hzs hsz v n xs hown a m c news hl hnews h1 h63 hbytes hbase
  refine ⟨v', w', hr, ho, hg, ?_⟩
  rcases hown.2 with ⟨rfl, rfl⟩ | ⟨g, cap, cur, rfl, hbg, hgc, hnc, hcm, hcs, htake⟩
  · have hx : xs = [] := List.eq_nil_of_length_eq_zero (by simpa using hown.1)
    subst hx
    obtain ⟨v2, w2, hr2, ho2, _⟩ := run_append_own (P := P) w w.heap.size t ty e i z size bytes ht hi hz hsize hby hzs hsz (.slice none 0 0) 0 [] (World.ownsRow_nil _ _ _ _) a m c news hl hnews h1 h63 hbytes (Nat.le_refl _)
    have e1 := hr.symm.trans hr2
    simp only [Result.ok.injEq] at e1
    obtain ⟨rfl, rfl⟩ := e1
    exact fun b hb => .inr (ho2.lt b hb).1
  · subst hsize
    by_cases hroom : n + m ≤ cap
    · have hfit : n * i.size + news.length ≤ cur.size := by rw [hl, hcs, ← Nat.add_mul]; exact Nat.mul_le_mul_right _ hroom
      have hr2 := run_append_room (P := P) w t ty e i ht hi g n cap cur hgc a m c news hl hnews h1 hroom hfit
      have e1 := hr.symm.trans hr2
      simp only [Result.ok.injEq] at e1
      obtain ⟨rfl, rfl⟩ := e1
      exact fun b hb => .inl hb
    · have holds : ∀ j u, xs[j]? = some u → w.cell? ((⟨g, 0, none⟩ : Addr).add j) = some u := hown.cells (g := g) rfl
      have hr2 := run_append_grow (P := P) w t ty e i z ht hi hz ⟨g, 0, none⟩ n cap xs hown.1 holds a m c news hl hnews (by omega) (by simp only [maxLen] at h63; omega) (growslice_fits (by omega) (by rw [hby]; exact hbytes))
      have e1 := hr.symm.trans hr2
      simp only [Result.ok.injEq] at e1
      obtain ⟨rfl, rfl⟩ := e1
      exact fun b hb => .inr (by simp [Value.ownBlock] at hb; omega)

/-- As one step of a region that draws. -/
theorem step_append_own {P : Program} {ops : Array Oper} {o : Oper} {a : Act} {w : World} {K : Act → World → Prop} {Q : Exit → Act → World → Prop} {E : Prop} (hg : o.guard = none) (s x : Operand) (t : TypeId)
    (ho : o.op = .call { callee := .builtin .append, args := #[s, x], argTypes := #[t, t] })
    (base : Nat) (e : TypeId) (i : TypeInfo) (z : Value) (size bytes : Nat) (ht : P.underlying t = some (.slice e)) (hi : P.info? e = some i) (hz : i.zero = some z)
    (hsize : i.size = size) (hby : i.bytes = bytes) (hzs : z.cells.size = size) (hsz : 0 < size)
    (v : Value) (n : Nat) (xs : List Value) (hs : a.eval s = v) (hown : w.ownsRow base e size v n xs)
    (ad : Addr) (m c : Nat) (news : List Value) (hx : a.eval x = .slice (some ad) m c) (hl : news.length = m * size) (hnews : ∀ j u, news[j]? = some u → w.cell? (ad.add j) = some u) (h1 : ∀ u ∈ news, u.oneCell' = true)
    (h63 : n + m ≤ maxLen) (hbytes : (n + m) * bytes ≤ 140737488355328) (hbase : base ≤ w.heap.size)
    (h : ∀ v' w', w'.ownsRow base e size v' (n + m) (xs ++ news) → w.grownBy w' v.ownBlock → (∀ b, v'.ownBlock = some b → v.ownBlock = some b ∨ w.heap.size ≤ b) → K (a.put o.dst v') w') :
    if Region.wanted o (yielded ops a.tmps) = true then Oper.wp P o a w K Q else E := by
  have hw : Region.wanted o (yielded ops a.tmps) = true := by simp [Region.wanted, hg]
  rw [if_pos hw]
  obtain ⟨v', w', hr, h2, h3, h4⟩ := append_fresh (P := P) w base t o.type e i z size bytes ht hi hz hsize hby hzs hsz v n xs hown ad m c news hl hnews h1 h63 hbytes hbase
  unfold Oper.wp execOp
  simp only [ho, resolve, invoke, builtin, Sem.run_bind, Sem.run_pure, Result.andThen_ok, List.map_toArray, List.map_cons, List.map_nil, hs, hx, hr]
  exact h v' w' h2 h3 h4
theorem cells_new (w : World) (c : Array Value) (t : TypeId) (m : Nat × Nat) : ∀ j u, c.toList[j]? = some u → (w.alloc (.cells c t m)).cell? ((⟨w.heap.size, 0, none⟩ : Addr).add j) = some u := by
  intro j u hu
  rw [addr_add, Nat.zero_add, cell?_alloc_mark']
  simpa using hu
end Go.Proofs.YtodckaioeomccaaGreat
namespace Go.Proofs.YtodckaioeomccaaGreat
open Go.RowKit

theorem ownsRow_slice {w : World} {base : Nat} {e : TypeId} {size : Nat} {v : Value} {n : Nat} {xs : List Value} (h : w.ownsRow base e size v n xs) : ∃ A c, v = .slice A n c := by
  rcases h.2 with ⟨rfl, rfl⟩ | ⟨g, cap, cur, rfl, _⟩
  · exact ⟨_, _, rfl⟩
  · exact ⟨_, _, rfl⟩
theorem ownsRow_mono {w : World} {base base' : Nat} {e : TypeId} {size : Nat} {v : Value} {n : Nat} {xs : List Value} (h : w.ownsRow base e size v n xs) (hb : base' ≤ base) : w.ownsRow base' e size v n xs := by
  refine ⟨h.1, h.2.imp id ?_⟩
  rintro ⟨g, cap, cur, e1, e2, e3⟩
  exact ⟨g, cap, cur, e1, by omega, e3⟩
end Go.Proofs.YtodckaioeomccaaGreat
namespace Go.Proofs.YtodckaioeomccaaGreat
open Go.RowKit Go.Proofs.OrdS
set_option linter.unusedVariables false
set_option linter.unusedSimpArgs false
/-- A row of names of one's own. -/
def OwnB (w : World) (B : Nat) (v : Value) (l : List ByteArray) : Prop := w.ownsRow B 9 1 v l.length (l.map Value.string)
theorem OwnB.rd {w : World} {B : Nat} {v : Value} {l : List ByteArray} (h : OwnB w B v l) : RdB w v l := (Rd.of_own (f := Value.string) (xs := l) h).mono fun _ _ => trivial
theorem OwnB.nil (w : World) (B : Nat) : OwnB w B (.slice none 0 0) [] := World.ownsRow_nil w B 9 1
theorem OwnB.slice {w : World} {B : Nat} {v : Value} {l : List ByteArray} (h : OwnB w B v l) : ∃ A c, v = .slice A l.length c := ownsRow_slice h
/-- One more name for a row of one's own. -/
theorem wpList_push {w w0 : World} {ops : Array Oper} {rest : List Oper} {o : Oper} {a : Act} {Q : Exit → Act → World → Prop} {B : Nat} {v : Value} {l : List ByteArray} {y : ByteArray} (hgd : o.guard = none) (s x : Operand)
    (ho : o.op = .call { callee := .builtin .append, args := #[s, x], argTypes := #[99, 99] }) (hs : a.eval s = v) (hw : w = w0.alloc (.cells #[.string y] 9)) (hx : a.eval x = .slice (some ⟨w0.heap.size, 0, none⟩) 1 1)
    (hown : OwnB w0 B v l) (hl : l.length ≤ 1000) (hB : B ≤ w0.heap.size)
    (h : ∀ v' w', OwnB w' B v' (l ++ [y]) → w.grownBy w' v.ownBlock → wpList Tryz.prog ops Q rest (a.put o.dst v') w') : wpList Tryz.prog ops Q (o :: rest) a w := by
  subst hw
  obtain ⟨i0, hi0, hz0, hz1, hz2⟩ := info_parts info9
  have hown1 : (w0.alloc (.cells #[.string y] 9)).ownsRow B 9 1 v l.length (l.map Value.string) := World.ownsRow.alloc hown _
  refine wpList_plain hgd fun K hK => ?_
  obtain ⟨v', w', hrun, h2, h3, _⟩ := append_fresh (P := Tryz.prog) (w0.alloc (.cells #[.string y] 9)) B 99 o.type 9 i0 (.string ⟨#[]⟩) 1 16 Tryz.underlying99 hi0 hz0 hz1 hz2 rfl (by decide) v l.length (l.map Value.string) hown1 ⟨w0.heap.size, 0, none⟩ 1 1 [.string y] rfl
    (cells_new w0 #[.string y] 9 (0, 0)) (fun u hu => by rw [List.mem_singleton.1 hu]; rfl) (by unfold maxLen; omega) (by omega) (by simp; omega)
  unfold Oper.wp
  simp [execOp, ho, resolve, invoke, builtin, hs, hx, hrun, Result.andThen]
  refine hK _ _ (h v' w' ?_ h3)
  unfold OwnB
  rw [List.length_append, List.map_append]
  exact h2
theorem names_take {xs : List StepD} {k : Nat} {x : StepD} (h : xs[k]? = some x) : names (xs.take (k + 1)) = names (xs.take k) ++ [x.name] := by
  unfold names
  rw [take_snoc? h, List.map_append]; rfl
theorem nameE_step {xs : List StepD} {k : Nat} {x : StepD} (h : xs[k]? = some x) : nameE (names (xs.take k)) (xs.drop k) = if x.name.size = 0 then 1 else if has (names (xs.take k)) x.name = true then 8 else nameE (names (xs.take (k + 1))) (xs.drop (k + 1)) := by
  have hk := (List.getElem?_eq_some_iff.1 h).1
  have e : xs.drop k = x :: xs.drop (k + 1) := by
    rw [List.drop_eq_getElem_cons hk, (List.getElem?_eq_some_iff.1 h).2]
  rw [e, names_take h]
  rfl
theorem has_at {l : List ByteArray} {n : ByteArray} : has l n = decide (0 ≤ atI l n) := by
  by_cases h : n ∈ l
  · rw [has_iff.2 h, decide_eq_true (atI_mem h).1]
  · rw [atI_not h]
    have : has l n ≠ true := fun e => h (has_iff.1 e)
    simpa using this
/-- A slice value's length. -/
def lenV : Value → Nat
  | .slice _ n _ => n
  | _ => 0
/-- The least ready step at or behind p. -/
def Sought (xs : List StepD) (out : List ByteArray) (p : Nat) (fd : Int) : Prop :=
  (fd = -1 ∧ ∀ j x, p ≤ j → xs[j]? = some x → readyB out x = false) ∨ ∃ (q : Nat) (x : StepD), fd = (q : Int) ∧ p ≤ q ∧ xs[q]? = some x ∧ readyB out x = true ∧ ∀ j y, p ≤ j → j < q → xs[j]? = some y → readyB out y = false
theorem Sought.start {xs : List StepD} {out : List ByteArray} {p : Nat} (h : xs.length ≤ p) : Sought xs out p (-1) := .inl ⟨rfl, fun j x hj hx => by have := (List.getElem?_eq_some_iff.1 hx).1; omega⟩
theorem Sought.hit {xs : List StepD} {out : List ByteArray} {p : Nat} {x : StepD} (hx : xs[p]? = some x) (hr : readyB out x = true) : Sought xs out p (p : Int) := .inr ⟨p, x, rfl, Nat.le_refl _, hx, hr, fun j y h1 h2 => by omega⟩
theorem Sought.miss {xs : List StepD} {out : List ByteArray} {p : Nat} {x : StepD} {fd : Int} (hx : xs[p]? = some x) (hr : readyB out x = false) (h : Sought xs out (p + 1) fd) : Sought xs out p fd := by
  have key : ∀ j y, p ≤ j → xs[j]? = some y → (p + 1 ≤ j → readyB out y = false) → readyB out y = false := fun j y hj hy hh => by
    rcases Nat.eq_or_lt_of_le hj with rfl | hlt
    · obtain rfl := Option.some.inj (hx.symm.trans hy); exact hr
    · exact hh hlt
  rcases h with ⟨h1, h2⟩ | ⟨q, y, h1, h2, h3, h4, h5⟩
  · exact .inl ⟨h1, fun j y hj hy => key j y hj hy fun h => h2 j y h hy⟩
  · exact .inr ⟨q, y, h1, by omega, h3, h4, fun j z hj hq hz => key j z hj hz fun h => h5 j z h hq hz⟩
theorem Sought.none_ {xs : List StepD} {out : List ByteArray} (h : Sought xs out 0 (-1)) : xs.find? (readyB out) = none := by
  rcases h with ⟨_, h2⟩ | ⟨q, y, h1, _⟩
  · rw [List.find?_eq_none]
    intro x hx
    obtain ⟨j, hj, rfl⟩ := List.mem_iff_getElem.1 hx
    rw [h2 j _ (Nat.zero_le _) (List.getElem?_eq_getElem hj)]; decide
  · omega
theorem Sought.some_ {xs : List StepD} {out : List ByteArray} {fd : Int} (h : Sought xs out 0 fd) (h0 : 0 ≤ fd) : ∃ (q : Nat) (x : StepD), fd = (q : Int) ∧ xs[q]? = some x ∧ xs.find? (readyB out) = some x := by
  rcases h with ⟨h1, _⟩ | ⟨q, x, h1, _, h3, h4, h5⟩
  · omega
  · refine ⟨q, x, h1, h3, ?_⟩
    rw [List.find?_eq_some_iff_append]
    obtain ⟨hq, hxq⟩ := List.getElem?_eq_some_iff.1 h3
    refine ⟨h4, xs.take q, xs.drop (q + 1), ?_, fun y hy => ?_⟩
    · rw [← hxq, ← List.drop_eq_getElem_cons hq, List.take_append_drop]
    · obtain ⟨j, hj, rfl⟩ := List.mem_iff_getElem.1 hy
      rw [List.length_take] at hj
      rw [List.getElem_take, h5 j _ (Nat.zero_le _) (by omega) (List.getElem?_eq_getElem (by omega))]; rfl
end Go.Proofs.YtodckaioeomccaaGreat
namespace Go.Proofs.YtodckaioeomccaaGreat
open Go.RowKit Go.Proofs.OrdS
set_option linter.unusedVariables false
set_option linter.unusedSimpArgs false
set_option maxRecDepth 100000 in
set_option maxHeartbeats 4000000 in
theorem rorder_any (v : Value) (xs : List StepD) (w : World) (h : RdT w v xs) :
    Calls Tryz.prog 50 #[v] w fun e w' => (∃ v', e = .returned (.tuple #[v', .int .i64 (ordE xs).1]) ∧ RdB w' v' (ordE xs).2) ∧ Below w.heap.size w w' := by
  obtain ⟨A, n, cap, rfl, hn, hcap, hmax, hcm, hc⟩ := h.open_
  by_cases h32 : 32 < n
  · have hb : (32 : Int) < (n : Int) := by omega
    have HE : Hid (ordE xs = (4, [])) := by show _ = _; unfold ordE; rw [if_pos (by omega)]
    rw [HE.out]
    clear h hc hn hcm HE
    go_enter Tryz.func50, Tryz.ntmps50
    go_wp2_with fail
    go_ret2
    exact ⟨⟨_, rfl, Rd.none_ _ _ _⟩, Below.refl _ _⟩
  · have hb : ¬ (32 : Int) < (n : Int) := by omega
    have HC := Lib.hid hc
    have HNS := Lib.hid (fun k x hx => @nameE_step xs k x hx)
    have HNT := Lib.hid (fun k x hx => @names_take xs k x hx)
    have HN := Lib.hid hn
    have HE0 : Hid (∀ e, nameE [] xs = e → e ≠ 0 → ordE xs = (e, [])) := fun e he hne => by unfold ordE; rw [if_neg (by omega), if_pos (by rw [he]; exact hne), he]
    clear h hc hn hcm
    go_enter Tryz.func50, Tryz.ntmps50
    go_wp2_with fail
    go_loopw [4, 5] (fun ov iv wr => ∃ (k : Nat) (bx : Value), bx = ov ∧ k ≤ n ∧ iv = .int .i64 (k : Int) ∧ Hid (OwnB wr w.heap.size bx (names (xs.take k))) ∧ Hid (nameE [] xs = nameE (names (xs.take k)) (xs.drop k)) ∧ Hid (Below w.heap.size w wr)) (fun _ iv _ => n - (intOf iv).toNat)
    case atStart => exact ⟨0, _, rfl, Nat.zero_le _, rfl, OwnB.nil _ _, rfl, Below.refl _ _⟩
    case round =>
      obtain ⟨k, bx, rfl, hk, rfl, HO, HNE, HB⟩ := hrel
      by_cases hlt : k < n
      · obtain ⟨b, off, x, f, rfl, hbw, hx, hcx, hcf, hrf⟩ := HC.out k hlt
        have c1 := (HB.out.cell (p := ⟨b, off + k * 2, none⟩) hbw).trans hcx
        have HST := Lib.hid (HNS.out k x hx)
        have HXX := Lib.hid hx
        have hee := strEq x.name ⟨#[]⟩
        by_cases h0 : x.name.size = 0
        · have hq : x.name = ⟨#[]⟩ := by
            cases hxn : x.name with | mk a => rw [hxn] at h0; congr 1; exact Array.size_eq_zero_iff.1 h0
          have HR : Hid (ordE xs = (1, [])) := HE0.out 1 (by rw [HNE.out, HST.out, if_pos h0]) (by decide)
          rw [hq] at c1
          clear hee h0 hcx hcf hrf hx hbw hq
          clear HNS HNT HST
          go_wp2_with fail
          go_ret2
          rw [HR.out]
          exact ⟨⟨_, rfl, Rd.none_ _ _ _⟩, HB.out⟩
        · have hq : ¬ x.name = ⟨#[]⟩ := fun e => h0 (by rw [e]; rfl)
          rw [decide_eq_false hq] at hee
          have he1 : (x.name.toList == []) = false := by
            have e0 : (⟨#[]⟩ : ByteArray).toList = [] := by rw [Lib.toList_data]
            rw [← e0]; exact hee
          have he2 : ¬ x.name.toList = [] := fun e => by rw [e] at he1; cases he1
          rw [if_neg h0] at HST
          have HHA := Lib.hid (rhas_any bx (names (xs.take k)) x.name wr HO.out.rd)
          obtain ⟨A1, ca, rfl⟩ := HO.out.slice
          obtain ⟨at1, hat⟩ : ∃ z, z = atI (names (xs.take k)) x.name := ⟨_, rfl⟩
          rw [← hat] at HHA
          have HHS : Hid (has (names (xs.take k)) x.name = decide (0 ≤ at1)) := by show _ = _; rw [has_at, hat]
          clear h0 hcx hcf hrf hx hbw hq hat hee
          go_wp2_with fail
          refine HHA.out.mono ?_
          rintro e w1 ⟨rfl, hwx⟩
          obtain rfl := hwx.symm
          clear hwx HHA
          by_cases hge : 0 ≤ at1
          · have HR : Hid (ordE xs = (8, [])) := HE0.out 8 (by rw [HNE.out, HST.out, HHS.out, decide_eq_true hge, if_pos rfl]) (by decide)
            clear HNS HNT HST HHS
            go_wp2_with fail
            go_ret2
            rw [HR.out]
            exact ⟨⟨_, rfl, Rd.none_ _ _ _⟩, HB.out⟩
          · have HNE1 : Hid (nameE [] xs = nameE (names (xs.take (k + 1))) (xs.drop (k + 1))) := by
              show _ = _; rw [HNE.out, HST.out, HHS.out, decide_eq_false hge, if_neg (by decide)]
            have HTK := Lib.hid (HNT.out k x HXX.out)
            have HL : Hid ((names (xs.take k)).length ≤ 1000) := by show _ ≤ _; unfold names; rw [List.length_map, List.length_take]; omega
            have HB2 : Hid (Below w.heap.size w (wr.alloc (.cells #[.string x.name] 9))) := HB.out.alloc HB.out.size _
            have HSZ := Lib.hid HB.out.size
            clear HST HHS
            go_wp2_with (at_builtin; refine wpList_push rfl _ _ rfl rfl rfl rfl HO.out HL.out HSZ.out ?_; intro v2 w2 ho hg; have HO2 := Lib.hid ho; have HB3 := Lib.hid (HB2.out.grown hg (Nat.le_trans HSZ.out (by simp)) (fun g hg => (World.ownsRow.lt HO.out g hg).1)); clear ho hg)
            go_roundw
            case rel => exact ⟨k + 1, v2, rfl, by omega, by go_num, by rw [HTK.out]; exact HO2.out, HNE1, HB3⟩
            case measure => simp [intOf]; omega
      · obtain rfl : n = k := by omega
        have HO1 : Hid (OwnB wr w.heap.size bx (names xs)) := by
          have := HO.out; rwa [List.take_of_length_le (by rw [HN.out]; exact Nat.le_refl _)] at this
        have HZ : Hid (nameE [] xs = 0) := by
          show _ = _
          rw [HNE.out, List.drop_eq_nil_of_le (by rw [HN.out]; exact Nat.le_refl _)]; rfl
        have HE5 : Hid (∀ (j : Nat) (x : StepD) (a : ByteArray), xs[j]? = some x → a ∈ x.after → atI (names xs) a < 0 → ordE xs = (5, [])) := fun j x a hx ha hlt => by
          have hm := List.mem_of_getElem? hx
          have h2 : aftB (names xs) xs = true := by
            unfold aftB
            rw [List.any_eq_true]
            refine ⟨x, hm, List.any_eq_true.2 ⟨a, ha, ?_⟩⟩
            rw [has_at, decide_eq_false (by omega)]; rfl
          unfold ordE
          rw [if_neg (by have := HN.out; omega), if_neg (fun h => h HZ.out), if_pos h2]
        have HHA : Hid (∀ a, Calls Tryz.prog 143 #[bx, .string a] wr fun e w' => e = .returned (.int .i64 (atI (names xs) a)) ∧ w' = wr) := fun a => rhas_any bx (names xs) a wr HO1.out.rd
        obtain ⟨A1, ca, rfl⟩ := HO1.out.slice
        obtain ⟨wo, rfl⟩ : ∃ wo : World, wo = wr := ⟨_, rfl⟩
        clear HNS HNT HE0 HO HNE
        go_wp2_with fail
        go_loop [6, 7] (fun iv _ => ∃ k : Nat, k ≤ n ∧ iv = .int .i64 (k : Int) ∧ Hid (∀ j, j < k → ∀ x, xs[j]? = some x → ∀ a ∈ x.after, 0 ≤ atI (names xs) a)) (fun iv _ => n - (intOf iv).toNat)
        case atStart => exact ⟨0, Nat.zero_le _, rfl, fun j hj => absurd hj (by omega)⟩
        case round =>
          obtain ⟨k, hk, rfl, HK⟩ := hrel
          by_cases hlt : k < n
          · obtain ⟨b, off, x, f, rfl, hbw, hx, hcx, hcf, hrf⟩ := HC.out k hlt
            have c1 := (HB.out.cell (p := ⟨b, off + k * 2 + 1, none⟩) hbw).trans hcf
            have HXX := Lib.hid hx
            have HRF := Lib.hid (hrf.below HB.out)
            obtain ⟨Af, cf, rfl, hcf1, hcf2, hcf3, hcc⟩ := (hrf.below HB.out).at_
            obtain ⟨m, hm⟩ : ∃ m, m = x.after.length := ⟨_, rfl⟩
            rw [← hm] at hcc c1 hcf1 hcf2
            have HCC := Lib.hid hcc
            have HM := Lib.hid hm
            clear hcx hcf hrf hx hbw hcc hm hcf3
            go_wp2_with fail
            go_loop [7] (fun iv => ∃ q : Nat, q ≤ m ∧ iv = .int .i64 (q : Int) ∧ Hid (∀ j, j < q → ∀ a, x.after[j]? = some a → 0 ≤ atI (names xs) a)) (fun iv => m - (intOf iv).toNat)
            case atStart => exact ⟨0, Nat.zero_le _, rfl, fun j hj => absurd hj (by omega)⟩
            case round =>
              obtain ⟨q, hq, rfl, HQ⟩ := hrel
              by_cases hqm : q < m
              · obtain ⟨b2, off2, y, rfl, _, hy, hcy⟩ := HCC.out q hqm
                have HHY := Lib.hid (HHA.out y)
                have HYY := Lib.hid hy
                obtain ⟨at1, hat⟩ : ∃ z, z = atI (names xs) y := ⟨_, rfl⟩
                rw [← hat] at HHY
                have HAT := Lib.hid hat
                clear hy hat
                go_wp2_with fail
                refine HHY.out.mono ?_
                rintro e w1 ⟨rfl, hwx⟩
                obtain rfl := hwx.symm
                clear hwx HHY
                by_cases hneg : at1 < 0
                · have HR := Lib.hid (HE5.out k x y HXX.out (List.mem_of_getElem? HYY.out) (by rw [← HAT.out]; exact hneg))
                  go_wp2_with fail
                  go_ret2
                  rw [HR.out]
                  exact ⟨⟨_, rfl, Rd.none_ _ _ _⟩, HB.out⟩
                · have HQ1 : Hid (∀ j, j < q + 1 → ∀ a, x.after[j]? = some a → 0 ≤ atI (names xs) a) := fun j hj a ha => by
                    rcases Nat.lt_or_ge j q with h | h
                    · exact HQ.out j h a ha
                    · obtain rfl : j = q := by omega
                      obtain rfl := Option.some.inj (HYY.out.symm.trans ha)
                      rw [← HAT.out]; omega
                  go_wp2_with fail
                  go_round
                  case rel => exact ⟨q + 1, by omega, by go_num, HQ1⟩
                  case measure => simp [intOf]; omega
              · obtain rfl : m = q := by omega
                have HK1 : Hid (∀ j, j < k + 1 → ∀ x, xs[j]? = some x → ∀ a ∈ x.after, 0 ≤ atI (names xs) a) := fun j hj z hz a ha => by
                  rcases Nat.lt_or_ge j k with h | h
                  · exact HK.out j h z hz a ha
                  · obtain rfl : j = k := by omega
                    obtain rfl := Option.some.inj (HXX.out.symm.trans hz)
                    obtain ⟨i, hi, rfl⟩ := List.mem_iff_getElem.1 ha
                    exact HQ.out i (by rw [HM.out]; exact hi) _ (List.getElem?_eq_getElem hi)
                go_wp2_with fail
                go_round
                case rel => exact ⟨k + 1, by omega, by go_num, HK1⟩
                case measure => simp [intOf]; omega
          · obtain rfl : n = k := by omega
            have HGO : Hid (∀ r, goO xs n [] = some r → ordE xs = (0, r)) := fun r hr => by
              have h2 : ¬ aftB (names xs) xs = true := fun h => by
                unfold aftB at h
                obtain ⟨x, hx, h3⟩ := List.any_eq_true.1 h
                obtain ⟨a, ha, h4⟩ := List.any_eq_true.1 h3
                obtain ⟨j, hj, rfl⟩ := List.mem_iff_getElem.1 hx
                have := HK.out j (by rw [← HN.out]; exact hj) _ (List.getElem?_eq_getElem hj) a ha
                rw [has_at, decide_eq_true this] at h4
                cases h4
              unfold ordE
              rw [if_neg (by have := HN.out; omega), if_neg (fun h => h HZ.out), if_neg h2, HN.out, hr]
            have HGN : Hid (goO xs n [] = none → ordE xs = (7, [])) := fun hr => by
              have h2 : ¬ aftB (names xs) xs = true := fun h => by
                unfold aftB at h
                obtain ⟨x, hx, h3⟩ := List.any_eq_true.1 h
                obtain ⟨a, ha, h4⟩ := List.any_eq_true.1 h3
                obtain ⟨j, hj, rfl⟩ := List.mem_iff_getElem.1 hx
                have := HK.out j (by rw [← HN.out]; exact hj) _ (List.getElem?_eq_getElem hj) a ha
                rw [has_at, decide_eq_true this] at h4
                cases h4
              unfold ordE
              rw [if_neg (by have := HN.out; omega), if_neg (fun h => h HZ.out), if_neg h2, HN.out, hr]
            clear HK HE5 HHA HO1 HZ
            go_wp2_with fail
            go_loopw [8] (fun ov wr => ∃ (out : List ByteArray) (bx : Value), bx = ov ∧ out.length ≤ n ∧ Hid (OwnB wr w.heap.size bx out) ∧ Hid (goO xs n [] = goO xs (n - out.length) out) ∧ Hid (Below w.heap.size w wr)) (fun ov _ => n - (lenV ov))
            case atStart => exact ⟨[], _, rfl, Nat.zero_le _, OwnB.nil _ _, rfl, HB⟩
            case round =>
              clear HB
              obtain ⟨out, bx, rfl, hol, HO, HG, HB⟩ := hrel
              have HHA : Hid (∀ a, Calls Tryz.prog 143 #[bx, .string a] wr fun e w' => e = .returned (.int .i64 (atI out a)) ∧ w' = wr) := fun a => rhas_any bx out a wr HO.out.rd
              obtain ⟨A3, c3, e3⟩ := HO.out.slice
              obtain ⟨m, hm⟩ : ∃ m, m = out.length := ⟨_, rfl⟩
              rw [← hm] at e3 hol
              subst e3
              have HM := Lib.hid hm
              clear hm
              by_cases hlt : m < n
              · have hw1 : IntKind.i64.wrap ((n : Int) - 1) = (n : Int) - 1 := IntWalk.i64_in _ (by omega)
                obtain ⟨wo, rfl⟩ : ∃ wo : World, wo = wr := ⟨_, rfl⟩
                go_wp2_with fail
                go_loop [9, 10, 11, 12] (fun fv iv _ _ => ∃ (p : Nat) (i fd : Int), p ≤ n ∧ Hid (i = (p : Int) - 1) ∧ iv = .int .i64 i ∧ fv = .int .i64 fd ∧ Hid (Sought xs out p fd)) (fun _ iv _ _ => (intOf iv + 1).toNat)
                case atStart => exact ⟨n, (n : Int) - 1, -1, Nat.le_refl _, rfl, rfl, rfl, Sought.start (by rw [HN.out]; exact Nat.le_refl _)⟩
                case round =>
                  obtain ⟨p, i, fd, hp, HI, rfl, rfl, HSO⟩ := hrel
                  by_cases hp0 : p = 0
                  · have hneg : ¬ (0 : Int) ≤ i := by have := HI.out; omega
                    have HS0 : Hid (Sought xs out 0 fd) := by rw [← hp0]; exact HSO.out
                    clear hp0 hp
                    by_cases hfd : fd < 0
                    · have HR : Hid (ordE xs = (7, [])) := by
                        refine HGN.out ?_
                        have hf := HS0.out
                        have e1 : fd = -1 := by
                          rcases hf with ⟨h, _⟩ | ⟨q, _, h, _⟩ <;> omega
                        rw [e1] at hf
                        rw [HG.out, ← HM.out, show n - m = (n - m - 1) + 1 by omega]
                        simp only [goO, hf.none_]
                      go_wp2_with fail
                      go_ret2
                      rw [HR.out]
                      exact ⟨⟨_, rfl, Rd.none_ _ _ _⟩, HB.out⟩
                    · obtain ⟨q, x, hfq, hx, hfi⟩ := HS0.out.some_ (by omega)
                      subst hfq
                      have hqn : q < n := by have := (List.getElem?_eq_some_iff.1 hx).1; have := HN.out; omega
                      obtain ⟨b, off, x', f, rfl, hbw, hx', hcx, hcf, hrf⟩ := HC.out q hqn
                      obtain rfl := Option.some.inj (hx.symm.trans hx')
                      have c1 := (HB.out.cell (p := ⟨b, off + q * 2, none⟩) hbw).trans hcx
                      have HG1 : Hid (goO xs n [] = goO xs (n - (out ++ [x.name]).length) (out ++ [x.name])) := by
                        show _ = _
                        rw [HG.out, ← HM.out, show n - m = (n - m - 1) + 1 by omega, List.length_append, ← HM.out]
                        simp only [goO, hfi, List.length_singleton]
                        rw [show n - m - 1 = n - (m + 1) by omega]
                      have HL1 : Hid ((out ++ [x.name]).length = m + 1) := by show _ = _; rw [List.length_append, ← HM.out]; rfl
                      have HL : Hid (out.length ≤ 1000) := by show _ ≤ _; rw [← HM.out]; omega
                      have HB2 : Hid (Below w.heap.size w (wo.alloc (.cells #[.string x.name] 9))) := HB.out.alloc HB.out.size _
                      have HSZ := Lib.hid HB.out.size
                      have hwq : IntKind.i64.wrap (q : Int) = (q : Int) := IntWalk.i64_in _ (by omega)
                      clear hcx hcf hrf hx hx' hbw hfi HS0 HSO
                      go_wp2_with (at_builtin; refine wpList_push rfl _ _ rfl rfl rfl rfl HO.out HL.out HSZ.out ?_; intro v2 w2 ho hg; have HO2 := Lib.hid ho; have HB3 := Lib.hid (HB2.out.grown hg (Nat.le_trans HSZ.out (by simp)) (fun g hg => (World.ownsRow.lt HO.out g hg).1)); clear ho hg)
                      obtain ⟨A4, c4, e4⟩ := HO2.out.slice
                      rw [HL1.out] at e4
                      subst e4
                      go_roundw
                      case rel => exact ⟨out ++ [x.name], _, rfl, by rw [HL1.out]; omega, HO2.out, HG1, HB3⟩
                      case measure => simp [lenV]; omega
                  · obtain ⟨j, hj⟩ : ∃ j, j = p - 1 := ⟨_, rfl⟩
                    obtain rfl : i = (j : Int) := by have := HI.out; omega
                    have hjn : j < n := by omega
                    have hpj : p = j + 1 := by omega
                    obtain ⟨b, off, x, f, rfl, hbw, hx, hcx, hcf, hrf⟩ := HC.out j hjn
                    have c1 := (HB.out.cell (p := ⟨b, off + j * 2, none⟩) hbw).trans hcx
                    have c2 := (HB.out.cell (p := ⟨b, off + j * 2 + 1, none⟩) hbw).trans hcf
                    have HXX := Lib.hid hx
                    obtain ⟨Af, cf, rfl, hcf1, hcf2, hcf3, hcc⟩ := (hrf.below HB.out).at_
                    obtain ⟨m2, hm2⟩ : ∃ m, m = x.after.length := ⟨_, rfl⟩
                    rw [← hm2] at hcc c2 hcf1 hcf2
                    have HCC := Lib.hid hcc
                    have HM2 := Lib.hid hm2
                    obtain ⟨at1, hat⟩ : ∃ z, z = atI out x.name := ⟨_, rfl⟩
                    have HHN := Lib.hid (HHA.out x.name)
                    rw [← hat] at HHN
                    have HAT := Lib.hid hat
                    have HPJ := Lib.hid hpj
                    have HSO1 : Hid (Sought xs out (j + 1) fd) := by rw [← hpj]; exact HSO.out
                    clear hcx hcf hrf hx hbw hcc hm2 hcf3 hat hj hpj HSO
                    go_wp2_with fail
                    refine HHN.out.mono ?_
                    rintro e w1 ⟨rfl, hwx⟩
                    obtain rfl := hwx.symm
                    clear hwx HHN
                    obtain ⟨r0, hr0⟩ : ∃ r, r = decide (at1 < 0) := ⟨_, rfl⟩
                    have HR0 : Hid (r0 = !has out x.name) := by
                      show _ = _
                      rw [hr0, has_at, ← HAT.out]
                      by_cases h : at1 < 0
                      · rw [decide_eq_true h, decide_eq_false (by omega)]; rfl
                      · rw [decide_eq_false h, decide_eq_true (by omega)]; rfl
                    have hr1 := hr0.symm
                    clear hr0
                    go_wp2_with fail
                    clear hr1
                    go_loop [11, 12] (fun rv kv => ∃ (q : Nat) (r : Bool), q ≤ m2 ∧ kv = .int .i64 (q : Int) ∧ rv = .bool r ∧ Hid (r = (!has out x.name && (x.after.take q).all (has out)))) (fun _ kv => m2 - (intOf kv).toNat)
                    case atStart => exact ⟨0, r0, Nat.zero_le _, rfl, rfl, by show _ = _; rw [HR0.out]; simp⟩
                    case round =>
                      obtain ⟨q, r, hq, rfl, rfl, HR⟩ := hrel
                      by_cases hqm : q < m2
                      · obtain ⟨b2, off2, y, rfl, _, hy, hcy⟩ := HCC.out q hqm
                        have HTA : Hid ((x.after.take (q + 1)).all (has out) = ((x.after.take q).all (has out) && has out y)) := by
                          show _ = _; rw [take_snoc? hy, List.all_append]; simp
                        have HHY := Lib.hid (HHA.out y)
                        obtain ⟨at2, hat2⟩ : ∃ z, z = atI out y := ⟨_, rfl⟩
                        have HHB : Hid (has out y = decide (0 ≤ at2)) := by show _ = _; rw [has_at, hat2]
                        rw [← hat2] at HHY
                        clear hy hat2
                        cases r with
                        | false =>
                          have HR1 : Hid (false = (!has out x.name && (x.after.take (q + 1)).all (has out))) := by
                            show _ = _; rw [HTA.out, ← Bool.and_assoc, ← HR.out]; rfl
                          go_wp2_with fail
                          go_round
                          case rel => exact ⟨q + 1, false, by omega, by go_num, rfl, HR1⟩
                          case measure => simp [intOf]; omega
                        | true =>
                          have HR1 : Hid (decide (0 ≤ at2) = (!has out x.name && (x.after.take (q + 1)).all (has out))) := by
                            show _ = _; rw [HTA.out, ← Bool.and_assoc, ← HR.out, HHB.out]; rfl
                          go_wp2_with fail
                          refine HHY.out.mono ?_
                          rintro e w1 ⟨rfl, hwx⟩
                          obtain rfl := hwx.symm
                          clear hwx HHY
                          go_wp2_with fail
                          go_round
                          case rel => exact ⟨q + 1, decide (0 ≤ at2), by omega, by go_num, rfl, HR1⟩
                          case measure => simp [intOf]; omega
                      · obtain rfl : m2 = q := by omega
                        have HRY : Hid (r = readyB out x) := by
                          have := HR.out
                          rw [List.take_of_length_le (by rw [← HM2.out]; exact Nat.le_refl _)] at this
                          exact this
                        have hwj : IntKind.i64.wrap ((j : Int) - 1) = (j : Int) - 1 := IntWalk.i64_in _ (by omega)
                        have HJ1 : Hid ((j : Int) - 1 = (j : Int) - 1) := rfl
                        have hpn : j ≤ n := by omega
                        clear HR hp hp0
                        cases r with
                        | true =>
                          have HS2 := Lib.hid (Sought.hit HXX.out HRY.out.symm)
                          go_wp2_with fail
                          go_round
                          case rel => exact ⟨j, (j : Int) - 1, (j : Int), hpn, HJ1, rfl, rfl, HS2⟩
                          case measure => simp [intOf]
                        | false =>
                          have HS2 := Lib.hid (Sought.miss HXX.out HRY.out.symm HSO1.out)
                          go_wp2_with fail
                          go_round
                          case rel => exact ⟨j, (j : Int) - 1, fd, hpn, HJ1, rfl, rfl, HS2⟩
                          case measure => simp [intOf]
              · obtain rfl : n = m := by omega
                have HR : Hid (ordE xs = (0, out)) := HGO.out out (by rw [HG.out, ← HM.out, Nat.sub_self]; rfl)
                go_wp2_with fail
                go_ret2
                rw [HR.out]
                exact ⟨⟨_, rfl, HO.out.rd⟩, HB.out⟩
end Go.Proofs.YtodckaioeomccaaGreat
