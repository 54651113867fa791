/- slices.Sort at []int: the library's contract, laid at this program. -/
import Derived.Shelf.Lays
import Derived.Shelf.Sort.Plain
import Derived.Shelf.Slices.In.SortNone
import Derived.Sort.OwnSortedInts
import Derived.Test.YtipclbibomemjaaGreatDoorU2
namespace Go.Proofs
open Go.Shelf
def Tryz.lays189_ren : Go.Shelf.Ren := ⟨fun | 189 => 23 | 125 => 30 | 257 => 29 | 128 => 92 | 129 => 93 | 294 => 83 | 295 => 84 | 296 => 85 | 297 => 86 | 298 => 87 | 299 => 88 | 216 => 89 | 300 => 90 | 301 => 91 | 328 => 132 | 329 => 133 | 330 => 134 | 331 => 135 | 332 => 136 | 215 => 137 | 343 => 145 | n => n, fun | 28 => 22 | 3 => 3 | 46 => 73 | 0 => 0 | 51 => 86 | 53 => 88 | 4 => 4 | 183 => 79 | 182 => 78 | 131 => 70 | 5 => 5 | 9 => 9 | 218 => 151 | 222 => 155 | 228 => 164 | 229 => 165 | n => n, fun | n => n⟩
theorem Tryz.lays189 : Go.Proofs.Lays.n189 Tryz.prog Tryz.lays189_ren := {
  mixed := by kernel_rfl
  f125 := Tryz.func30.trans (congrArg some (by kernel_rfl))
  f128 := Tryz.func92.trans (congrArg some (by kernel_rfl))
  f129 := Tryz.func93.trans (congrArg some (by kernel_rfl))
  f189 := Tryz.func23.trans (congrArg some (by kernel_rfl))
  f215 := Tryz.func137.trans (congrArg some (by kernel_rfl))
  f216 := Tryz.func89.trans (congrArg some (by kernel_rfl))
  f257 := Tryz.func29.trans (congrArg some (by kernel_rfl))
  f294 := Tryz.func83.trans (congrArg some (by kernel_rfl))
  f295 := Tryz.func84.trans (congrArg some (by kernel_rfl))
  f296 := Tryz.func85.trans (congrArg some (by kernel_rfl))
  f297 := Tryz.func86.trans (congrArg some (by kernel_rfl))
  f298 := Tryz.func87.trans (congrArg some (by kernel_rfl))
  f299 := Tryz.func88.trans (congrArg some (by kernel_rfl))
  f300 := Tryz.func90.trans (congrArg some (by kernel_rfl))
  f301 := Tryz.func91.trans (congrArg some (by kernel_rfl))
  f328 := Tryz.func132.trans (congrArg some (by kernel_rfl))
  f329 := Tryz.func133.trans (congrArg some (by kernel_rfl))
  f330 := Tryz.func134.trans (congrArg some (by kernel_rfl))
  f331 := Tryz.func135.trans (congrArg some (by kernel_rfl))
  f332 := Tryz.func136.trans (congrArg some (by kernel_rfl))
  f343 := Tryz.func145.trans (congrArg some (by kernel_rfl))
  t0 := Tryz.underlying0
  a0 := Tryz.isAgg0
  z0 := Tryz.sizeOf0
  v0 := Tryz.zeroValue0
  t3 := Tryz.underlying3
  a3 := Tryz.isAgg3
  z3 := Tryz.sizeOf3
  v3 := Tryz.zeroValue3
  t4 := Tryz.underlying4
  a4 := Tryz.isAgg4
  z4 := Tryz.sizeOf4
  v4 := Tryz.zeroValue4
  t5 := Tryz.underlying5
  a5 := Tryz.isAgg5
  z5 := Tryz.sizeOf5
  v5 := Tryz.zeroValue5
  t9 := Tryz.underlying9
  a9 := Tryz.isAgg9
  z9 := Tryz.sizeOf9
  v9 := Tryz.zeroValue9
  t28 := Tryz.underlying22
  a28 := Tryz.isAgg22
  z28 := Tryz.sizeOf22
  v28 := Tryz.zeroValue22
  t46 := Tryz.underlying73
  a46 := Tryz.isAgg73
  z46 := Tryz.sizeOf73
  v46 := Tryz.zeroValue73
  t51 := Tryz.underlying86
  a51 := Tryz.isAgg86
  z51 := Tryz.sizeOf86
  v51 := Tryz.zeroValue86
  t53 := Tryz.underlying88
  a53 := Tryz.isAgg88
  z53 := Tryz.sizeOf88
  v53 := Tryz.zeroValue88
  t131 := Tryz.underlying70
  a131 := Tryz.isAgg70
  z131 := Tryz.sizeOf70
  v131 := Tryz.zeroValue70
  t182 := Tryz.underlying78
  a182 := Tryz.isAgg78
  z182 := Tryz.sizeOf78
  v182 := Tryz.zeroValue78
  t183 := Tryz.underlying79
  a183 := Tryz.isAgg79
  z183 := Tryz.sizeOf79
  v183 := Tryz.zeroValue79
  t218 := Tryz.underlying151
  a218 := Tryz.isAgg151
  z218 := Tryz.sizeOf151
  v218 := Tryz.zeroValue151
  t222 := Tryz.underlying155
  a222 := Tryz.isAgg155
  z222 := Tryz.sizeOf155
  v222 := Tryz.zeroValue155
  t228 := Tryz.underlying164
  a228 := Tryz.isAgg164
  z228 := Tryz.sizeOf164
  v228 := Tryz.zeroValue164
  t229 := Tryz.underlying165
  a229 := Tryz.isAgg165
  z229 := Tryz.sizeOf165
  v229 := Tryz.zeroValue165 }
end Go.Proofs
namespace Go.Proofs.YtipclbibomemjaaGreatDoor
open Go Go.RowKit Go.Maps Go.Sort Go.Shelf

def leI (x y : Int) : Bool := decide (x ≤ y)
theorem sort_nil (w : World) (a : Option Addr) (cap : Nat) : Calls Tryz.prog 23 #[.slice a 0 cap] w fun e w' => e = .returned (.tuple #[]) ∧ w' = w := Any.slices_Sort_int_none Tryz.lays189 a cap w
theorem sort_own (w : World) (g cap : Nat) (zs : List Int) (hown : w.ownsRow 0 3 1 (.slice (some ⟨g, 0, none⟩) zs.length cap) zs.length (zs.map (Value.int .i64))) (hl : zs.length < 4611686018427387904) :
    Calls Tryz.prog 23 #[.slice (some ⟨g, 0, none⟩) zs.length cap] w fun e w' => e = .returned (.tuple #[]) ∧ w'.ownsRow 0 3 1 (.slice (some ⟨g, 0, none⟩) zs.length cap) zs.length ((zs.mergeSort leI).map (Value.int .i64)) ∧ Chg (fun k => k = g) w w' := by
  rcases hown.2 with ⟨e, _⟩ | ⟨g', cap', cur, e, hb, hh, h1, h2, h3, h4⟩
  · cases e
  · cases e
    have ht : cur.toList.take zs.length = zs.map (Value.int .i64) := by
      have := h4
      rw [Nat.mul_one] at this
      exact this
    refine (Any.slices_Sort_int Tryz.lays189 g 0 cap zs w (holds_of_blockI hh ht) (heap_lt hh) hl).mono ?_
    rintro e w' ⟨rfl, n, os, rfl⟩
    refine ⟨rfl, ?_, (Chg.refl _ w).grown (grownBy_sortedI _) (fun k e => .inl (by cases e; rfl))⟩
    exact ownsRow_sortedI (List.length_mergeSort zs) (Nat.zero_le _) hh h1 h2 (by rw [h3])
end Go.Proofs.YtipclbibomemjaaGreatDoor
