/- The walks of New, Tyres, Counts, Journal. The walk of strings.Trim at one digit; numeral at one digit. The walks of numeral and span at one digit. -/
import Derived.Test.YtfondpakbiagjaaGreatDoorHDo
namespace Go.Proofs.YtfondpakbiagjaaGreatDoor
open Go.RowKit Go.Lib
set_option linter.unusedVariables false
set_option linter.unusedSimpArgs false
set_option maxRecDepth 100000
set_option maxHeartbeats 4000000
theorem RdT.nil (w : World) : RdT w (.slice none 0 0) [] := ⟨none, 0, rfl, Nat.le_refl _, Nat.zero_le _, fun h => absurd rfl h⟩
theorem new_any (w : World) : Calls Tryz.prog 19 #[] w fun e w' => e = .returned (.pointer (some ⟨w.heap.size, 0, none⟩)) ∧ HallIs w' w.heap.size (.slice none 0 0) (.slice none 0 0) [] [] ∧ Below w.heap.size w w' := by
  obtain ⟨W1, HW1, HB1, HS1, j1⟩ := st_al0 w #[.slice none 0 0, .slice none 0 0, .slice none 0 0] 121
  have HJ := Lib.hid j1
  clear j1
  go_enter Tryz.func19, Tryz.ntmps19
  go_wp2_with fail
  rw [← HW1.out]
  go_ret
  exact ⟨rfl, ⟨HB1.out, RdT.nil _, OwnB.nil _ _, fun _ _ _ e => (nomatch e), fun h => absurd rfl h⟩, HJ.out⟩
theorem tyres_any (hb : Nat) (tv jv : Value) (T : List TyD) (J : List Int) (w : World) (h : HallIs w hb tv jv T J) (hl : T.length ≤ 1000000) :
    Calls Tryz.prog 119 #[.pointer (some ⟨hb, 0, none⟩)] w fun e w' => (∃ v', e = .returned v' ∧ OwnTy w' w.heap.size v' T) ∧ Below w.heap.size w w' := by
  obtain ⟨A0, cap0, e0, -, -⟩ := h.ty.at
  have HCL := Lib.hid (cloneT_own tv T w h.ty hl)
  have d1 := kC (cs := [.slice none 0 0, tv, jv]) (Lib.hid h.blk) 1 rfl
  rw [e0] at d1 HCL
  clear h
  go_enter Tryz.func119, Tryz.ntmps119
  go_wp2_with fail
  refine HCL.out.mono ?_
  rintro e w4 ⟨⟨v', rfl, hv'⟩, j4⟩
  have HO : Hid (OwnTy w4 w.heap.size v' T) := hv'
  have HJ := Lib.hid j4
  clear j4 hv' HCL d1
  go_wp2_with fail
  go_ret
  exact ⟨⟨_, rfl, HO.out⟩, HJ.out⟩
theorem cloneB_any (v : Value) (xs : List Int) (B : Nat) (w : World) (hv : OwnB w B v xs) (hl : xs.length ≤ 1000000) :
    Calls Tryz.prog 53 #[v] w fun e w' => (∃ A c, e = .returned (.slice A xs.length c)) ∧ Below w.heap.size w w' := by
  obtain ⟨i0, hi, hz0, hz1, hz2⟩ := info_parts infoB
  have HV := Lib.hid hv
  obtain ⟨A, cap, rfl⟩ := hv.slice
  have heq := fun (w : World) (A : Option Addr) (n c : Nat) => Lib.run_eql_slice_nil (P := Tryz.prog) w 72 5 A n c 0 0 Tryz.underlying72
  obtain ⟨n, hn⟩ : ∃ n, n = xs.length := ⟨_, rfl⟩
  have HN := Lib.hid hn
  rw [← hn] at hl HV ⊢
  cases A with
  | none =>
    have HX : Hid (xs = []) := by
      cases xs with
      | nil => rfl
      | cons x xs => obtain ⟨g, c, e, -⟩ := HV.out.cells (by simp); cases e
    clear hv hn
    go_enter Tryz.func53, Tryz.ntmps53
    go_wp2_with fail
    go_ret
    exact ⟨⟨_, _, by rw [HN.out, HX.out]; rfl⟩, Below.refl _ _⟩
  | some ad =>
    have HC : Hid (∀ j u, (xs.map u8V)[j]? = some u → (w.alloc (.cells #[] 5)).cell? (ad.add j) = some u) := fun j u hu => by
      rw [List.getElem?_map] at hu
      obtain ⟨x, hx, rfl⟩ := Option.map_eq_some_iff.1 hu
      obtain ⟨g, c, e, -, hg, hc⟩ := HV.out.cells (fun e => by rw [e] at hx; simp at hx)
      injection e with e
      injection e with e
      subst e
      rw [addr_add, Nat.zero_add]
      exact ((((Below.refl w.heap.size w).alloc (Nat.le_refl _) (.cells #[] 5))).cell (p := ⟨g, j, none⟩) hg).trans (hc j x hx)
    have HL : Hid ((xs.map u8V).length = n * 1) := by show _ = _; rw [List.length_map, HN.out, Nat.mul_one]
    clear hv hn
    go_enter Tryz.func53, Tryz.ntmps53
    go_wp2_with (at_builtin; refine wpList_append_own _ rfl _ _ 72 rfl w.heap.size 5 i0 _ 1 1 Tryz.underlying72 hi hz0 hz1 hz2 rfl (by decide) _ 0 [] rfl (World.ownsRow_made w #[] 0 (Nat.le_refl _) (by decide) rfl) ad n cap (xs.map u8V) rfl HL.out HC.out (fun u hu => by obtain ⟨x, -, rfl⟩ := List.mem_map.1 hu; rfl) (by unfold maxLen; omega) (by omega) (by simp) ?_; intro v' w1 hown' hgrow hnil)
    go_ret
    obtain ⟨A', c', rfl⟩ := ownsRow_slice hown'
    exact ⟨⟨A', c', by simp⟩, ((Below.refl _ w).alloc (Nat.le_refl _) _).grown hgrow (by simp) (fun k hk => by simp [Value.ownBlock, Act.eval] at hk; omega)⟩
theorem journal_any (hb : Nat) (tv jv : Value) (T : List TyD) (J : List Int) (w : World) (h : HallIs w hb tv jv T J) (hl : J.length ≤ 1000000) :
    Calls Tryz.prog 21 #[.pointer (some ⟨hb, 0, none⟩)] w fun e w' => (∃ A c, e = .returned (.slice A J.length c)) ∧ Below w.heap.size w w' := by
  have HCL := Lib.hid (cloneB_any jv J (hb + 1) w h.jo hl)
  have d1 := kC (cs := [.slice none 0 0, tv, jv]) (Lib.hid h.blk) 2 rfl
  obtain ⟨A0, cap0, rfl⟩ := h.jo.slice
  obtain ⟨n, hn⟩ : ∃ n, n = J.length := ⟨_, rfl⟩
  rw [← hn] at d1 HCL ⊢
  clear h hn hl
  go_enter Tryz.func21, Tryz.ntmps21
  go_wp2_with fail
  refine HCL.out.mono ?_
  rintro e w4 ⟨⟨A, c, rfl⟩, j4⟩
  have HJ := Lib.hid j4
  clear j4 HCL d1
  go_wp2_with fail
  go_ret
  exact ⟨⟨A, c, rfl⟩, HJ.out⟩
end Go.Proofs.YtfondpakbiagjaaGreatDoor
namespace Go.Proofs.YtfondpakbiagjaaGreatDoor
open Go.RowKit Go.Lib
set_option linter.unusedVariables false
set_option linter.unusedSimpArgs false
set_option maxRecDepth 100000
set_option maxHeartbeats 4000000
theorem trimR_one (d : UInt8) (b : Nat) (w : World) (hc : w.cell? ⟨b, d.toNat, none⟩ = some (.bool true)) :
    Calls Tryz.prog 166 #[.string ⟨#[d]⟩, .pointer (some ⟨b, 0, none⟩)] w fun e w' => e = .returned (.string ⟨#[]⟩) ∧ w' = w := by
  have HC := Lib.hid (Tryz.asciiSet_contains b d true w hc)
  clear hc
  go_enter Tryz.func166, Tryz.ntmps166
  go_wp2_with fail
  go_loopw [0] (fun sv wr => (sv = .string ⟨#[d]⟩ ∨ sv = .string ⟨#[]⟩) ∧ wr = w) (fun sv _ => match sv with | .string s => s.size | _ => 0)
  case atStart => exact ⟨.inl rfl, rfl⟩
  case round =>
    obtain ⟨rfl | rfl, hw⟩ := hrel
    · obtain rfl := hw.symm
      clear hw
      go_wp2_with fail
      refine HC.out.mono ?_
      rintro e w1 ⟨rfl, hw⟩
      obtain rfl := hw.symm
      clear hw HC
      go_wp2_with fail
      go_roundw
      case rel => exact ⟨.inr (by rfl), trivial⟩
      case measure => exact Nat.lt_succ_self 0
    · obtain rfl := hw.symm
      clear hw
      go_wp2_with fail
      go_ret
      exact ⟨rfl, rfl⟩
theorem trimL_nil (b : Nat) (w : World) :
    Calls Tryz.prog 165 #[.string ⟨#[]⟩, .pointer (some ⟨b, 0, none⟩)] w fun e w' => e = .returned (.string ⟨#[]⟩) ∧ w' = w := by
  go_enter Tryz.func165, Tryz.ntmps165
  go_wp2_with fail
  go_loopw [0] (fun sv wr => sv = .string ⟨#[]⟩ ∧ wr = w) (fun sv _ => (0 : Nat))
  case atStart => exact ⟨rfl, rfl⟩
  case round =>
    obtain ⟨rfl, hw⟩ := hrel
    obtain rfl := hw.symm
    clear hw
    go_wp2_with fail
    go_ret
    exact ⟨rfl, rfl⟩
def digB : ByteArray := ⟨#[48, 49, 50, 51, 52, 53, 54, 55, 56, 57]⟩
theorem dig_asc : ∀ (j : Nat) b, digB.data.toList[j]? = some b → b.toNat < 128 := fun j b hb => by
  have h : ∀ b ∈ digB.data.toList, b.toNat < 128 := by decide
  exact h b (List.mem_of_getElem? hb)
theorem dig_one : (Lib.setCells digB.data.toList).all (·.oneCell') = true := by kernel_rfl
theorem dig_size : (Lib.setCells digB.data.toList).size = 256 := by kernel_rfl
theorem dig_at (d : UInt8) (h : 48 ≤ d.toNat ∧ d.toNat ≤ 57) : (Lib.setCells digB.data.toList)[d.toNat]? = some (.bool true) := by
  have h2 := Lib.setCells_at digB.data.toList d
  rw [h2]
  have h3 : ∀ n : Fin 256, 48 ≤ n.val → n.val ≤ 57 → digB.data.toList.contains (UInt8.ofNat n.val) = true := by decide
  have h4 := h3 ⟨d.toNat, d.toNat_lt⟩ h.1 h.2
  simp only [UInt8.ofNat_toNat] at h4
  rw [h4]
theorem za_size : Tryz.zeroCells250.size = 256 := by kernel_rfl
theorem trim_one (d : UInt8) (w : World) (h : 48 ≤ d.toNat ∧ d.toNat ≤ 57) :
    Calls Tryz.prog 124 #[.string ⟨#[d]⟩, .string digB] w fun e w' => e = .returned (.string ⟨#[]⟩) ∧ Below w.heap.size w w' := by
  have HM := Lib.hid (fun hv => Tryz.strings_makeASCIISet hv digB w (by decide) dig_asc)
  have HD := Lib.hid (dig_at d h)
  have HO := Lib.hid dig_one
  have HZ := Lib.hid dig_size
  obtain ⟨cs, hcs⟩ : ∃ c, c = Lib.setCells digB.data.toList := ⟨_, rfl⟩
  rw [← hcs] at HM HD HO HZ
  clear hcs h
  go_enter Tryz.func124, Tryz.ntmps124
  unfold digB at HM ⊢
  go_wp2_with fail
  refine (HM.out (fun w => by kernel_rfl)).mono ?_
  rintro e w1 ⟨rfl, hw1⟩
  have j1 : Below w.heap.size w w1 := by rw [hw1]; exact (Below.refl _ _).alloc (Nat.le_refl _) _
  have HJ := Lib.hid j1
  obtain ⟨hth, W2, HW2, HB2, j2⟩ := box_new w1 250 (z := Tryz.zeroCells250.toList) (cs := cs.toList) (n := 256) (by rw [Array.length_toList, za_size]) (by rw [Array.length_toList]; exact HZ.out)
  have HTH : Hid ((w1.alloc (.cells Tryz.zeroCells250 250)).there w1.heap.size 0 256) := hth
  have HW3 : Hid (W2 = (w1.alloc (.cells Tryz.zeroCells250 250)).setCells w1.heap.size 0 cs.toList) := HW2.out
  replace HJ := kU HJ j2
  have HC : Hid (W2.cell? ⟨w1.heap.size, d.toNat, none⟩ = some (.bool true)) := by
    have h2 := blk_cell HB2.out d.toNat
    show _ = _
    rw [h2]
    exact HD.out
  have HTR := Lib.hid (trimR_one d w1.heap.size W2 HC.out)
  have HTL := Lib.hid (trimL_nil w1.heap.size W2)
  clear HM hw1 j1 hth HW2 j2 HB2 HD HC
  go_wp2_with (refine smd 250 w1.heap.size 0 (ht := HTH) (hn := HZ.out) (h1 := HO.out) (h := ?_); rw [← HW3.out])
  refine HTR.out.mono ?_
  rintro e w3 ⟨rfl, hw⟩
  obtain rfl := hw.symm
  clear hw HTR
  go_wp2_with fail
  refine HTL.out.mono ?_
  rintro e w3 ⟨rfl, hw⟩
  obtain rfl := hw.symm
  clear hw HTL
  go_wp2_with fail
  go_ret
  exact ⟨rfl, HJ.out⟩
end Go.Proofs.YtfondpakbiagjaaGreatDoor
namespace Go.Proofs.YtfondpakbiagjaaGreatDoor
open Go.RowKit Go.Lib
set_option linter.unusedVariables false
set_option linter.unusedSimpArgs false
set_option maxRecDepth 100000
set_option maxHeartbeats 4000000
theorem bytesW_below (w : World) (e : TypeId) (s : ByteArray) : Below w.heap.size w (Lib.bytesWorld w e s) :=
  ⟨rfl, rfl, rfl, by rw [Lib.bytesWorld_size]; omega, fun k hk => Lib.bytesWorld_at_old w e s k hk⟩
theorem tab_below {P : Program} {w w' : World} {name : String} {k : IntKind} {zs : List Int} (h : Lib.TabIs P w name k zs) (hb : Below w.heap.size w w') : Lib.TabIs P w' name k zs := by
  unfold Lib.TabIs World.var? at *
  cases hg : P.globalNamed name with
  | none => rw [hg] at h; cases h
  | some g =>
    rw [hg] at h
    simp only [Option.bind_some] at h ⊢
    rcases Nat.lt_or_ge g w.heap.size with hlt | hge
    · rw [hb.block g hlt]; exact h
    · rw [Array.getElem?_eq_none hge] at h; cases h
/-- What the library's variables hold. -/
def Gl (w : World) : Prop := (∃ m, w.cell? ⟨3, 0, none⟩ = some (.int .i64 m)) ∧ Lib.TabIs Tryz.prog w "internal/strconv.uint64pow10" .u64 Lib.pow10Tab
/-- They hold it whatever is done from B on. -/
def Glob (B : Nat) (w : World) : Prop := ∀ w', Below B w w' → Gl w'
theorem Glob.here {B : Nat} {w : World} (h : Glob B w) : Gl w := h w (Below.refl _ _)
theorem Glob.on {B : Nat} {w w1 : World} (h : Glob B w) (hb : Below B w w1) : Glob B w1 := fun w' h' => h w' (hb.trans h')
theorem Glob.up {B C : Nat} {w : World} (h : Glob B w) (hb : B ≤ C) : Glob C w := fun w' h' => h w' (h'.mono hb)
theorem Glob.of {w : World} (h : Gl w) : Glob w.heap.size w := fun w' hb => by
  obtain ⟨⟨m, hm⟩, ht⟩ := h
  exact ⟨⟨m, (hb.cell (p := ⟨3, 0, none⟩) (cell_lt hm)).trans hm⟩, tab_below ht hb⟩
theorem Gl.on {w w' : World} (h : Gl w) (hb : Below w.heap.size w w') : Gl w' := (Glob.of h) w' hb
theorem drewN_below (B : Nat) (w : World) (n : Nat) : Below B w (w.drewN n) := ⟨rfl, rfl, rfl, Nat.le_refl _, fun _ _ => rfl⟩
theorem numeral_one (d : UInt8) (n : Int) (w : World) (h : 48 ≤ d.toNat ∧ d.toNat ≤ 57) (hn : Lib.atoi [d] = some n) :
    Calls Tryz.prog 100 #[.string ⟨#[d]⟩] w fun e w' => e = .returned (.tuple #[.int .i64 n, .bool true]) ∧ Below w.heap.size w w' := by
  have HT := Lib.hid (trim_one d w h)
  have HA := Lib.hid (fun W => Tryz.strconv_Atoi ⟨#[d]⟩ n (by show (1 : Nat) ≤ 18; omega) hn W)
  unfold digB at HT
  clear h hn
  go_enter Tryz.func100, Tryz.ntmps100
  go_wp2_with fail
  refine HT.out.mono ?_
  rintro e w1 ⟨rfl, j1⟩
  have HJ := Lib.hid j1
  clear HT j1
  go_wp2_with fail
  refine (HA.out _).mono ?_
  rintro e w2 ⟨rfl, t, hw⟩
  have j2 : Below w1.heap.size w1 w2 := by rw [hw]; exact bytesW_below _ _ _
  replace HJ := kU HJ j2
  clear HA hw j2
  go_wp2_with fail
  go_ret2
  exact ⟨rfl, HJ.out⟩
theorem span_one (d : UInt8) (n : Int) (w : World) (h : 48 ≤ d.toNat ∧ d.toNat ≤ 57) (hn : Lib.atoi [d] = some n) (hg : Gl w) (hc : Lib.cut [d] [45] = ([d], [], false)) :
    Calls Tryz.prog 105 #[.string ⟨#[d]⟩] w fun e w' => e = .returned (.tuple #[.int .i64 n, .int .i64 n, .bool true]) ∧ Below w.heap.size w w' := by
  obtain ⟨⟨m, hm⟩, -⟩ := hg
  have HC := Lib.hid (Tryz.strings_Cut ⟨#[d]⟩ ⟨#[45]⟩ m w (by show (1 : Nat) < 4294967281; omega) hm)
  rw [show Lib.cut (⟨#[d]⟩ : ByteArray).data.toList (⟨#[45]⟩ : ByteArray).data.toList = ([d], [], false) from hc] at HC
  have HN := Lib.hid (fun W => numeral_one d n W h hn)
  clear h hn hc hm
  go_enter Tryz.func105, Tryz.ntmps105
  go_wp2_with fail
  refine HC.out.mono ?_
  rintro e w1 ⟨rfl, k, hw⟩
  have j1 : Below w.heap.size w w1 := by rw [hw]; exact drewN_below _ _ _
  have HJ := Lib.hid j1
  clear HC hw j1
  go_wp2_with fail
  refine (HN.out _).mono ?_
  rintro e w2 ⟨rfl, j2⟩
  replace HJ := kU HJ j2
  clear j2 HN
  go_wp2_with fail
  go_ret3
  exact ⟨rfl, HJ.out⟩
theorem span_two (s : ByteArray) (d e : UInt8) (n u : Int) (w : World) (h : 48 ≤ d.toNat ∧ d.toNat ≤ 57) (hn : Lib.atoi [d] = some n) (h' : 48 ≤ e.toNat ∧ e.toNat ≤ 57) (hn' : Lib.atoi [e] = some u) (hg : Gl w) (hs : s.size ≤ 1000) (hc : Lib.cut s.data.toList [45] = ([d], [e], true)) :
    Calls Tryz.prog 105 #[.string s] w fun e w' => e = .returned (.tuple #[.int .i64 n, .int .i64 u, .bool true]) ∧ Below w.heap.size w w' := by
  obtain ⟨⟨m, hm⟩, -⟩ := hg
  have HC := Lib.hid (Tryz.strings_Cut s ⟨#[45]⟩ m w (by omega) hm)
  rw [show Lib.cut s.data.toList (⟨#[45]⟩ : ByteArray).data.toList = ([d], [e], true) from hc] at HC
  have HN := Lib.hid (fun W => numeral_one d n W h hn)
  have HN' := Lib.hid (fun W => numeral_one e u W h' hn')
  clear h hn hc hm h' hn'
  go_enter Tryz.func105, Tryz.ntmps105
  go_wp2_with fail
  refine HC.out.mono ?_
  rintro e w1 ⟨rfl, k, hw⟩
  have j1 : Below w.heap.size w w1 := by rw [hw]; exact drewN_below _ _ _
  have HJ := Lib.hid j1
  clear HC hw j1
  go_wp2_with fail
  refine (HN.out _).mono ?_
  rintro e w2 ⟨rfl, j2⟩
  replace HJ := kU HJ j2
  clear j2 HN
  go_wp2_with fail
  refine (HN'.out _).mono ?_
  rintro e w2 ⟨rfl, j2⟩
  replace HJ := kU HJ j2
  clear j2 HN'
  go_wp2_with fail
  go_ret3
  exact ⟨rfl, HJ.out⟩
end Go.Proofs.YtfondpakbiagjaaGreatDoor
