/- The contract of slices.Sort at []int, laid at this program: the numbers of its functions and types. -/
import Derived.Shelf.Sort.Plain
import Derived.Sort.OwnSortedInts
import Derived.Test.YtogccnngdfancaaBase2
import Derived.Test.YtogccnngdfancaaClone
namespace Go.Proofs.Ytogccnngdfancaa
open Go.Proofs Go.RowKit Go.Sort
set_option linter.unusedVariables false
def layst_ren : Go.Shelf.Ren := ⟨fun | 189 => 36 | 125 => 57 | 257 => 56 | 128 => 78 | 129 => 79 | 294 => 69 | 295 => 70 | 296 => 71 | 297 => 72 | 298 => 73 | 299 => 74 | 216 => 75 | 300 => 76 | 301 => 77 | 328 => 85 | 329 => 86 | 330 => 87 | 331 => 88 | 332 => 89 | 215 => 61 | 343 => 91 | n => n, fun | 28 => 22 | 3 => 3 | 46 => 107 | 0 => 0 | 51 => 124 | 53 => 126 | 4 => 4 | 183 => 117 | 182 => 116 | 131 => 98 | 5 => 5 | 9 => 9 | 218 => 131 | 222 => 135 | 228 => 137 | 229 => 138 | n => n, fun | n => n⟩
theorem layst : Go.Proofs.Lays.n189 Try.prog layst_ren := {
  mixed := by kernel_rfl,
  f125 := Try.func57.trans (congrArg some (by kernel_rfl)),
  f128 := Try.func78.trans (congrArg some (by kernel_rfl)),
  f129 := Try.func79.trans (congrArg some (by kernel_rfl)),
  f189 := Try.func36.trans (congrArg some (by kernel_rfl)),
  f215 := Try.func61.trans (congrArg some (by kernel_rfl)),
  f216 := Try.func75.trans (congrArg some (by kernel_rfl)),
  f257 := Try.func56.trans (congrArg some (by kernel_rfl)),
  f294 := Try.func69.trans (congrArg some (by kernel_rfl)),
  f295 := Try.func70.trans (congrArg some (by kernel_rfl)),
  f296 := Try.func71.trans (congrArg some (by kernel_rfl)),
  f297 := Try.func72.trans (congrArg some (by kernel_rfl)),
  f298 := Try.func73.trans (congrArg some (by kernel_rfl)),
  f299 := Try.func74.trans (congrArg some (by kernel_rfl)),
  f300 := Try.func76.trans (congrArg some (by kernel_rfl)),
  f301 := Try.func77.trans (congrArg some (by kernel_rfl)),
  f328 := Try.func85.trans (congrArg some (by kernel_rfl)),
  f329 := Try.func86.trans (congrArg some (by kernel_rfl)),
  f330 := Try.func87.trans (congrArg some (by kernel_rfl)),
  f331 := Try.func88.trans (congrArg some (by kernel_rfl)),
  f332 := Try.func89.trans (congrArg some (by kernel_rfl)),
  f343 := Try.func91.trans (congrArg some (by kernel_rfl)),
  t0 := Try.underlying0,
  a0 := Try.isAgg0,
  z0 := Try.sizeOf0,
  v0 := Try.zeroValue0,
  t3 := Try.underlying3,
  a3 := Try.isAgg3,
  z3 := Try.sizeOf3,
  v3 := Try.zeroValue3,
  t4 := Try.underlying4,
  a4 := Try.isAgg4,
  z4 := Try.sizeOf4,
  v4 := Try.zeroValue4,
  t5 := Try.underlying5,
  a5 := Try.isAgg5,
  z5 := Try.sizeOf5,
  v5 := Try.zeroValue5,
  t9 := Try.underlying9,
  a9 := Try.isAgg9,
  z9 := Try.sizeOf9,
  v9 := Try.zeroValue9,
  t28 := Try.underlying22,
  a28 := Try.isAgg22,
  z28 := Try.sizeOf22,
  v28 := Try.zeroValue22,
  t46 := Try.underlying107,
  a46 := Try.isAgg107,
  z46 := Try.sizeOf107,
  v46 := Try.zeroValue107,
  t51 := Try.underlying124,
  a51 := Try.isAgg124,
  z51 := Try.sizeOf124,
  v51 := Try.zeroValue124,
  t53 := Try.underlying126,
  a53 := Try.isAgg126,
  z53 := Try.sizeOf126,
  v53 := Try.zeroValue126,
  t131 := Try.underlying98,
  a131 := Try.isAgg98,
  z131 := Try.sizeOf98,
  v131 := Try.zeroValue98,
  t182 := Try.underlying116,
  a182 := Try.isAgg116,
  z182 := Try.sizeOf116,
  v182 := Try.zeroValue116,
  t183 := Try.underlying117,
  a183 := Try.isAgg117,
  z183 := Try.sizeOf117,
  v183 := Try.zeroValue117,
  t218 := Try.underlying131,
  a218 := Try.isAgg131,
  z218 := Try.sizeOf131,
  v218 := Try.zeroValue131,
  t222 := Try.underlying135,
  a222 := Try.isAgg135,
  z222 := Try.sizeOf135,
  v222 := Try.zeroValue135,
  t228 := Try.underlying137,
  a228 := Try.isAgg137,
  z228 := Try.sizeOf137,
  v228 := Try.zeroValue137,
  t229 := Try.underlying138,
  a229 := Try.isAgg138,
  z229 := Try.sizeOf138,
  v229 := Try.zeroValue138 }
def sortZ (zs : List Int) : List Int := zs.mergeSort fun x y => decide (x ≤ y)
theorem sortZ_perm (zs : List Int) : (sortZ zs).Perm zs := List.mergeSort_perm _ _
theorem sortZ_sorted (zs : List Int) : (sortZ zs).Pairwise (· ≤ ·) := by
  have h := List.pairwise_mergeSort (le := fun x y : Int => decide (x ≤ y)) (by intro a b c h1 h2; simp only [decide_eq_true_eq] at *; omega) (by intro a b; simp only [Bool.or_eq_true, decide_eq_true_eq]; omega) zs
  exact h.imp (by intro a b h; simpa using h)
/-- A row of ints of the call's own, not empty, sorted in its place. -/
theorem sortI_own (v : Value) (B : Nat) (zs : List Int) (w : World) (ho : w.ownsRow B 3 1 v zs.length (zs.map (Value.int .i64))) (hne : zs ≠ []) (hl : zs.length ≤ 1000000) :
    Calls Try.prog 36 #[v] w fun e w' => e = .returned (.tuple #[]) ∧ w'.ownsRow B 3 1 v zs.length ((sortZ zs).map (Value.int .i64)) ∧ w.grownBy w' v.ownBlock := by
  rcases ho.2 with ⟨_, h0⟩ | ⟨g, cap, cur, rfl, hb, hg, hn, hcap, hcs, ht⟩
  · exact absurd (List.length_eq_zero_iff.1 h0) hne
  · rw [Nat.mul_one] at ht
    have hlt := (Array.getElem?_eq_some_iff.1 hg).1
    refine (Any.slices_Sort_int layst g 0 cap zs w (holds_of_blockI hg ht) hlt (by omega)).mono ?_
    rintro e w' ⟨rfl, n, os, rfl⟩
    exact ⟨rfl, ownsRow_sortedI (sortZ_perm zs).length_eq hb hg hn hcap hcs, grownBy_sortedI _⟩
end Go.Proofs.Ytogccnngdfancaa
