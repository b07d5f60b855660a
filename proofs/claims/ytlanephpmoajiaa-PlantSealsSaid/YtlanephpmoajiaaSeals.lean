/- The walk of PlantSeals. -/
import Derived.Test.YtlanephpmoajiaaAwake
import Derived.Test.YtlanephpmoajiaaCodes2
import Derived.Test.YtlanephpmoajiaaSealPlain
import Derived.Test.YtlanephpmoajiaaBytes
import Derived.RegionTactic
import Derived.ChangeAlike
namespace Go.Proofs.Ytlanephpmoajiaa
open Go.RowKit Pl

theorem BytesAt.at_ {w : World} {b : Nat} {l : List UInt8} (h : BytesAt w b l) {i : Nat} {x : UInt8} (hx : l[i]? = some x) : w.cell? ⟨b, i, none⟩ = some (.int .u8 (x.toNat : Int)) ∧ w.frozen? ⟨b, i, none⟩ = false := by
  obtain ⟨hi, rfl⟩ := List.getElem?_eq_some_iff.1 hx
  exact ⟨h.cell hi, h.free hi⟩
theorem ba_get {s : ByteArray} {i : Nat} (hi : i < s.size) : ∃ x, s.data.toList[i]? = some x ∧ s[i] = x := ⟨s[i], by rw [List.getElem?_eq_getElem (by rw [ba_len]; exact hi)]; rfl, rfl⟩

set_option maxRecDepth 100000 in
set_option maxHeartbeats 4000000 in
theorem plantSeals_walk (a0 : ByteArray) (at_ to : Nat) (c : UInt8) (hat : at_ ≤ 255) (hto : to ≤ 255) (w : World) :
    Calls Try.prog 7 #[.string a0, .int .u8 at_, .int .u8 to, .int .u8 (c.toNat : Int)] w fun e w' => e = .returned (.bool true) ∧ Below w.heap.size w w' := by
  have HSEAL := Lib.hid (seal_any a0)
  go_enter Try.func7, Try.ntmps7
  go_wp2_with fail
  refine (HSEAL.out _).mono ?_
  rintro e w1 ⟨r1, c1, rfl, h1, -, hb1⟩
  have hc1 : (c1 = 0) ∨ ((c1 = 4 ∨ c1 = 2) ∧ r1 = ⟨#[]⟩) := by
    rcases h1 with ⟨rfl, h, _⟩ | ⟨_, _, ⟨rfl, h, _⟩ | ⟨rfl, _⟩⟩
    · exact .inr ⟨.inl rfl, ba_inj (by rw [h])⟩
    · exact .inr ⟨.inr rfl, ba_inj (by rw [h])⟩
    · exact .inl rfl
  have H1 := Lib.hid h1
  clear h1
  rcases hc1 with rfl | ⟨rfl | rfl, rfl⟩
  case inr.inl | inr.inr =>
    go_wp2_with fail
    refine (awake_any _).mono ?_
    rintro e w2 ⟨rfl, hb2⟩
    go_wp2_with fail
    go_ret
    exact ⟨rfl, hb1.trans (hb2.mono hb1.size)⟩
  go_wp2_with fail
  refine (open_any _ _).mono ?_
  rintro e w2 ⟨r2, c2, rfl, h2, -, hb2⟩
  obtain ⟨rfl, e2, hl1, hl2, hl3, hcode, hck⟩ := open_sealed H1.out rfl h2
  obtain rfl := ba_inj e2
  rw [ba_len, ba_len] at hl1
  rw [ba_len] at hl2 hl3
  have hbw : Below w.heap.size w w2 := hb1.trans (hb2.mono hb1.size)
  have hne : ((r1.size : Int) != (r2.size : Int) + 1) = false := by rw [hl1]; simp
  have hr2 : (r2.size : Int) ≤ 100 := by omega
  obtain ⟨n, hn⟩ : ∃ n, n = r1.size := ⟨_, rfl⟩
  obtain ⟨i, hi⟩ : ∃ i, i = at_ % r1.size := ⟨_, rfl⟩
  obtain ⟨k, hk⟩ : ∃ k, k = to % r1.size := ⟨_, rfl⟩
  have hin : i < r1.size := by rw [hi]; exact Nat.mod_lt _ (by omega)
  have hkn : k < r1.size := by rw [hk]; exact Nat.mod_lt _ (by omega)
  have hz : ((r1.size : Int) == 0) = false := by rw [beq_eq_false_iff_ne]; omega
  have t1 : (at_ : Int).tmod (r1.size : Int) = (i : Int) := by rw [hi]; rfl
  have t2 : (to : Int).tmod (r1.size : Int) = (k : Int) := by rw [hk]; rfl
  have HCODE := Lib.hid hcode
  have HCK := Lib.hid hck
  have T1 := Lib.hid t1
  have T2 := Lib.hid t2
  clear h2 H1 e2 hb1 hb2 hl1 hi hk hcode hck HSEAL hn t1 t2
  go_wp2_with fail
  have t1 := T1.out
  have t2 := T2.out
  go_quiet (fail)
  clear t1 t2
  have hbw3 := below_drewN hbw nq
  obtain ⟨w3, hw3⟩ : ∃ w3, w3 = w2.drewN nq := ⟨_, rfl⟩
  rw [← hw3] at hbw3 ⊢
  clear hw3 hbw
  obtain ⟨cap, w4, hconv, hcap, hby, hb4⟩ := bytes_new r1 w3 (by unfold maxLen; omega)
  obtain ⟨x, hx, hgx⟩ := ba_get hin
  obtain ⟨y, hy, hgy⟩ := ba_get hkn
  obtain ⟨l, hl⟩ : ∃ l, l = r1.data.toList := ⟨_, rfl⟩
  have hlen := ba_len r1
  rw [← hl] at hx hy hby hlen HCODE HCK
  obtain ⟨q1, q2⟩ := hby.at_ hx
  have HBY := Lib.hid hby
  have HX := Lib.hid hx
  have HY := Lib.hid hy
  have HL := Lib.hid hl
  have HLEN := Lib.hid hlen
  clear hby hx hy hl hlen
  have hb5 := HBY.out.set i c
  have hback := bytes_back (n := r1.size) (cap := cap) hb5 (by simp [HLEN.out])
  obtain ⟨s1, hs1⟩ : ∃ s1 : ByteArray, s1 = ⟨(l.set i c).toArray⟩ := ⟨_, rfl⟩
  rw [← hs1] at hback
  have HS1 := Lib.hid (show s1.data.toList = l.set i c from by rw [hs1])
  have HB5 := Lib.hid hb5
  clear hb5 hs1
  go_wp2_with fail
  clear hback hconv q1 q2
  refine (open_any _ _).mono ?_
  rintro e w5 ⟨r5, c5, rfl, h5, -, hb5⟩
  rw [HS1.out] at h5
  have hil : i < l.length := by rw [HLEN.out]; exact hin
  have hkl : k < l.length := by rw [HLEN.out]; exact hkn
  have hxi : l[i] = x := by have := HX.out; rw [List.getElem?_eq_getElem hil] at this; exact Option.some.inj this
  have hyk : l[k] = y := by have := HY.out; rw [List.getElem?_eq_getElem hkl] at this; exact Option.some.inj this
  have hrep := open_replaced hil (by rw [HLEN.out]; exact hl2) (by rw [HLEN.out]; exact hl3) HCODE.out HCK.out h5
  rw [hxi] at hrep
  have hbw5 : Below w.heap.size w w5 := by
    refine hbw3.trans ((hb4.mono hbw3.size).trans (((Below.refl _ w4).setCell (p := ⟨w3.heap.size, i, none⟩) (by have := hbw3.size; exact this) _).trans (hb5.mono ?_)))
    have := hbw3.size; have := hb4.size; simp; omega
  have hB5 := HB5.out.below hb5
  have hs3 : w.heap.size ≤ w3.heap.size := hbw3.size
  clear hb4 hbw3 hb5 HB5 HBY h5
  have hcase : (((c.toNat : Int) != (x.toNat : Int)) = true ∧ ((c.toNat : Int) == (x.toNat : Int)) = false ∧ (c5 = 90 ∨ c5 = 2)) ∨ (((c.toNat : Int) != (x.toNat : Int)) = false ∧ ((c.toNat : Int) == (x.toNat : Int)) = true ∧ c5 = 0) := by
    by_cases h : c = x
    · subst h; exact .inr ⟨by simp, by simp, hrep.2 rfl⟩
    · have h1 : (c.toNat : Int) ≠ x.toNat := fun e => h (UInt8.toNat_inj.1 (by omega))
      exact .inl ⟨by simpa using h1, by simpa using h1, hrep.1 h⟩
  clear hrep
  have HXI := Lib.hid hxi
  have HYK := Lib.hid hyk
  clear hxi hyk
  have HB5 := Lib.hid hB5
  clear hB5
  rcases hcase with ⟨d1, d2, rfl | rfl⟩ | ⟨d1, d2, rfl⟩
  all_goals
    go_wp2_with fail
    have hs1 : (l.set i c)[i]? = some c := by rw [List.getElem?_set_self hil]
    obtain ⟨q1, q2⟩ := HB5.out.at_ hs1
    have q3 : (w5.frozen? ⟨w3.heap.size, k, none⟩) = false := HB5.out.free (by simpa using hkl)
    have q4 : ∃ z : UInt8, w5.cell? ⟨w3.heap.size, k, none⟩ = some (.int .u8 (z.toNat : Int)) := ⟨_, HB5.out.cell (i := k) (by simpa using hkl)⟩
    obtain ⟨z, q4⟩ := q4
    have hb6 : BytesAt (((w5.setCell ⟨w3.heap.size, i, none⟩ (.int .u8 (y.toNat : Int))).setCell ⟨w3.heap.size, k, none⟩ (.int .u8 (x.toNat : Int))).drew) w3.heap.size ((l.set i y).set k x) := by
      have := (HB5.out.set i y).set k x
      rw [List.set_set] at this
      exact this
    have hbw6 : Below w.heap.size w (((w5.setCell ⟨w3.heap.size, i, none⟩ (.int .u8 (y.toNat : Int))).setCell ⟨w3.heap.size, k, none⟩ (.int .u8 (x.toNat : Int))).drew) := ((hbw5.setCell hs3 _).setCell hs3 _).drew
    obtain ⟨L2, hL2⟩ : ∃ L2, L2 = (l.set i y).set k x := ⟨_, rfl⟩
    rw [← hL2] at hb6
    have HSW : Hid (∀ r e, OpenOut L2 r e → (x = y → e = 0) ∧ (x ≠ y → e = 90)) := fun r e ho => by
      have := open_swapped (r := r) (e := e) hil hkl (by rw [HLEN.out]; exact hl2) (by rw [HLEN.out]; exact hl3) HCODE.out HCK.out (by rw [HXI.out, HYK.out, ← hL2]; exact ho)
      rwa [HXI.out, HYK.out] at this
    have HLL : Hid (r1.size = L2.length) := by unfold Hid; rw [hL2]; simp [HLEN.out]
    obtain ⟨s2, hs2⟩ : ∃ s2 : ByteArray, s2 = ⟨L2.toArray⟩ := ⟨_, rfl⟩
    have HS2 := Lib.hid (show s2.data.toList = L2 from by rw [hs2])
    have HS2' := Lib.hid hs2
    clear hL2 hs2
    have HB6 := Lib.hid hb6
    have HBW6 := Lib.hid hbw6
    clear hb6 hbw6 hbw5 hs1
    by_cases hik : i = k
    · subst hik
      obtain rfl : y = x := hgy.symm.trans hgx
      go_region
      clear q1 q2 q3 q4
      have hback2 := bytes_back (n := r1.size) (cap := cap) HB6.out HLL.out
      rw [← HS2'.out] at hback2
      go_wp2_with fail
      clear hback2
      refine (open_any _ _).mono ?_
      rintro e w7 ⟨r7, c7, rfl, h7, -, hb7⟩
      rw [HS2.out] at h7
      have hsw := HSW.out _ _ h7
      have hbw7 : Below w.heap.size w w7 := HBW6.out.trans (hb7.mono HBW6.out.size)
      clear h7 hb7 HB6 HBW6
      obtain rfl := hsw.1 (by simp)
      go_wp2_with fail
      go_quiet (fail)
      have hbw8 := below_drewN hbw7 nq
      obtain ⟨w8, hw8⟩ : ∃ w8, w8 = w7.drewN nq := ⟨_, rfl⟩
      first | rw [← hw8] at hbw8 ⊢ | skip
      obtain ⟨cap2, w9, hconv2, hcap2, hby9, hb9⟩ := bytes_new r1 w8 (by unfold maxLen; omega)
      rw [← HL.out] at hby9
      obtain ⟨q1, q2⟩ := hby9.at_ HX.out
      have hb10 : BytesAt (w9.setCell ⟨w8.heap.size, i, none⟩ (.int .u8 63)) w8.heap.size (l.set i 63) := hby9.set i 63
      have hback3 := bytes_back (n := r1.size) (cap := cap2) hb10 (by simp [HLEN.out])
      obtain ⟨s3, hs3'⟩ : ∃ s3 : ByteArray, s3 = ⟨(l.set i 63).toArray⟩ := ⟨_, rfl⟩
      rw [← hs3'] at hback3
      have HS3 := Lib.hid (show s3.data.toList = l.set i 63 from by rw [hs3'])
      have hbw10 : Below w.heap.size w (w9.setCell ⟨w8.heap.size, i, none⟩ (.int .u8 63)) := (hbw8.trans (hb9.mono hbw8.size)).setCell (by have := hbw8.size; exact this) _
      clear hs3' hb10 hby9 hb9 hbw8 hw8 hbw7 hsw
      go_wp2_with fail
      clear hback3 hconv2 q1 q2
      refine (mend_any _ _).mono ?_
      rintro e w11 ⟨r11, c11, rfl, h11, -, hb11⟩
      rw [HS3.out] at h11
      obtain ⟨e1, rfl⟩ := mend_lost hil (by rw [HLEN.out]; exact hl2) (by rw [HLEN.out]; exact hl3) HCODE.out HCK.out h11
      obtain rfl := ba_inj (e1.trans HL.out)
      have hbw11 : Below w.heap.size w w11 := hbw10.trans (hb11.mono hbw10.size)
      clear h11 e1 hb11 hbw10
      go_wp2_with fail
      refine (awake_any _).mono ?_
      rintro e w12 ⟨rfl, hb12⟩
      go_wp2_with fail
      go_ret
      exact ⟨rfl, hbw11.trans (hb12.mono hbw11.size)⟩
    · go_region
      clear q1 q2 q3 q4
      have hback2 := bytes_back (n := r1.size) (cap := cap) HB6.out HLL.out
      rw [← HS2'.out] at hback2
      go_wp2_with fail
      clear hback2
      refine (open_any _ _).mono ?_
      rintro e w7 ⟨r7, c7, rfl, h7, -, hb7⟩
      rw [HS2.out] at h7
      have hsw := HSW.out _ _ h7
      have hbw7 : Below w.heap.size w w7 := HBW6.out.trans (hb7.mono HBW6.out.size)
      clear h7 hb7 HB6 HBW6
      by_cases hxy : x = y
      · obtain rfl := hsw.1 hxy
        have z1 : ((x.toNat : Int) == (y.toNat : Int)) = true := by rw [hxy]; simp
        clear hxy
        go_wp2_with fail
        go_quiet (fail)
        have hbw8 := below_drewN hbw7 nq
        obtain ⟨w8, hw8⟩ : ∃ w8, w8 = w7.drewN nq := ⟨_, rfl⟩
        first | rw [← hw8] at hbw8 ⊢ | skip
        obtain ⟨cap2, w9, hconv2, hcap2, hby9, hb9⟩ := bytes_new r1 w8 (by unfold maxLen; omega)
        rw [← HL.out] at hby9
        obtain ⟨q1, q2⟩ := hby9.at_ HX.out
        have hb10 : BytesAt (w9.setCell ⟨w8.heap.size, i, none⟩ (.int .u8 63)) w8.heap.size (l.set i 63) := hby9.set i 63
        have hback3 := bytes_back (n := r1.size) (cap := cap2) hb10 (by simp [HLEN.out])
        obtain ⟨s3, hs3'⟩ : ∃ s3 : ByteArray, s3 = ⟨(l.set i 63).toArray⟩ := ⟨_, rfl⟩
        rw [← hs3'] at hback3
        have HS3 := Lib.hid (show s3.data.toList = l.set i 63 from by rw [hs3'])
        have hbw10 : Below w.heap.size w (w9.setCell ⟨w8.heap.size, i, none⟩ (.int .u8 63)) := (hbw8.trans (hb9.mono hbw8.size)).setCell (by have := hbw8.size; exact this) _
        clear hs3' hb10 hby9 hb9 hbw8 hw8 hbw7 hsw
        go_wp2_with fail
        clear hback3 hconv2 q1 q2
        refine (mend_any _ _).mono ?_
        rintro e w11 ⟨r11, c11, rfl, h11, -, hb11⟩
        rw [HS3.out] at h11
        obtain ⟨e1, rfl⟩ := mend_lost hil (by rw [HLEN.out]; exact hl2) (by rw [HLEN.out]; exact hl3) HCODE.out HCK.out h11
        obtain rfl := ba_inj (e1.trans HL.out)
        have hbw11 : Below w.heap.size w w11 := hbw10.trans (hb11.mono hbw10.size)
        clear h11 e1 hb11 hbw10
        go_wp2_with fail
        refine (awake_any _).mono ?_
        rintro e w12 ⟨rfl, hb12⟩
        go_wp2_with fail
        go_ret
        exact ⟨rfl, hbw11.trans (hb12.mono hbw11.size)⟩
      · obtain rfl := hsw.2 hxy
        have z1 : ((x.toNat : Int) == (y.toNat : Int)) = false := by
          rw [beq_eq_false_iff_ne]
          intro e
          exact hxy (UInt8.toNat_inj.1 (by omega))
        clear hxy
        go_wp2_with fail
        go_quiet (fail)
        have hbw8 := below_drewN hbw7 nq
        obtain ⟨w8, hw8⟩ : ∃ w8, w8 = w7.drewN nq := ⟨_, rfl⟩
        first | rw [← hw8] at hbw8 ⊢ | skip
        obtain ⟨cap2, w9, hconv2, hcap2, hby9, hb9⟩ := bytes_new r1 w8 (by unfold maxLen; omega)
        rw [← HL.out] at hby9
        obtain ⟨q1, q2⟩ := hby9.at_ HX.out
        have hb10 : BytesAt (w9.setCell ⟨w8.heap.size, i, none⟩ (.int .u8 63)) w8.heap.size (l.set i 63) := hby9.set i 63
        have hback3 := bytes_back (n := r1.size) (cap := cap2) hb10 (by simp [HLEN.out])
        obtain ⟨s3, hs3'⟩ : ∃ s3 : ByteArray, s3 = ⟨(l.set i 63).toArray⟩ := ⟨_, rfl⟩
        rw [← hs3'] at hback3
        have HS3 := Lib.hid (show s3.data.toList = l.set i 63 from by rw [hs3'])
        have hbw10 : Below w.heap.size w (w9.setCell ⟨w8.heap.size, i, none⟩ (.int .u8 63)) := (hbw8.trans (hb9.mono hbw8.size)).setCell (by have := hbw8.size; exact this) _
        clear hs3' hb10 hby9 hb9 hbw8 hw8 hbw7 hsw
        go_wp2_with fail
        clear hback3 hconv2 q1 q2
        refine (mend_any _ _).mono ?_
        rintro e w11 ⟨r11, c11, rfl, h11, -, hb11⟩
        rw [HS3.out] at h11
        obtain ⟨e1, rfl⟩ := mend_lost hil (by rw [HLEN.out]; exact hl2) (by rw [HLEN.out]; exact hl3) HCODE.out HCK.out h11
        obtain rfl := ba_inj (e1.trans HL.out)
        have hbw11 : Below w.heap.size w w11 := hbw10.trans (hb11.mono hbw10.size)
        clear h11 e1 hb11 hbw10
        go_wp2_with fail
        refine (awake_any _).mono ?_
        rintro e w12 ⟨rfl, hb12⟩
        go_wp2_with fail
        go_ret
        exact ⟨rfl, hbw11.trans (hb12.mono hbw11.size)⟩
end Go.Proofs.Ytlanephpmoajiaa
