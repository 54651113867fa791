/- slices.Sort at []int: the library's contract, laid at this program. -/
import Derived.Shelf.Lays
import Derived.Shelf.Sort.Plain
import Derived.Shelf.Slices.In.SortNone
import Derived.Sort.OwnSortedInts
import Derived.Test.YtipclbibomemjaaU2
namespace Go.Proofs
open Go.Shelf
def Try.lays189_ren : Go.Shelf.Ren := ⟨fun | 189 => 41 | 125 => 46 | 257 => 45 | 128 => 56 | 129 => 57 | 294 => 47 | 295 => 48 | 296 => 49 | 297 => 50 | 298 => 51 | 299 => 52 | 216 => 53 | 300 => 54 | 301 => 55 | 328 => 58 | 329 => 59 | 330 => 60 | 331 => 61 | 332 => 62 | 215 => 63 | 343 => 64 | n => n, fun | 28 => 22 | 3 => 3 | 46 => 80 | 0 => 0 | 51 => 89 | 53 => 91 | 4 => 4 | 183 => 83 | 182 => 82 | 131 => 74 | 5 => 5 | 9 => 9 | 218 => 92 | 222 => 96 | 228 => 98 | 229 => 99 | n => n, fun | n => n⟩
theorem Try.lays189 : Go.Proofs.Lays.n189 Try.prog Try.lays189_ren := {
  mixed := by kernel_rfl
  f125 := Try.func46.trans (congrArg some (by kernel_rfl))
  f128 := Try.func56.trans (congrArg some (by kernel_rfl))
  f129 := Try.func57.trans (congrArg some (by kernel_rfl))
  f189 := Try.func41.trans (congrArg some (by kernel_rfl))
  f215 := Try.func63.trans (congrArg some (by kernel_rfl))
  f216 := Try.func53.trans (congrArg some (by kernel_rfl))
  f257 := Try.func45.trans (congrArg some (by kernel_rfl))
  f294 := Try.func47.trans (congrArg some (by kernel_rfl))
  f295 := Try.func48.trans (congrArg some (by kernel_rfl))
  f296 := Try.func49.trans (congrArg some (by kernel_rfl))
  f297 := Try.func50.trans (congrArg some (by kernel_rfl))
  f298 := Try.func51.trans (congrArg some (by kernel_rfl))
  f299 := Try.func52.trans (congrArg some (by kernel_rfl))
  f300 := Try.func54.trans (congrArg some (by kernel_rfl))
  f301 := Try.func55.trans (congrArg some (by kernel_rfl))
  f328 := Try.func58.trans (congrArg some (by kernel_rfl))
  f329 := Try.func59.trans (congrArg some (by kernel_rfl))
  f330 := Try.func60.trans (congrArg some (by kernel_rfl))
  f331 := Try.func61.trans (congrArg some (by kernel_rfl))
  f332 := Try.func62.trans (congrArg some (by kernel_rfl))
  f343 := Try.func64.trans (congrArg some (by kernel_rfl))
  t0 := Try.underlying0
  a0 := Try.isAgg0
  z0 := Try.sizeOf0
  v0 := Try.zeroValue0
  t3 := Try.underlying3
  a3 := Try.isAgg3
  z3 := Try.sizeOf3
  v3 := Try.zeroValue3
  t4 := Try.underlying4
  a4 := Try.isAgg4
  z4 := Try.sizeOf4
  v4 := Try.zeroValue4
  t5 := Try.underlying5
  a5 := Try.isAgg5
  z5 := Try.sizeOf5
  v5 := Try.zeroValue5
  t9 := Try.underlying9
  a9 := Try.isAgg9
  z9 := Try.sizeOf9
  v9 := Try.zeroValue9
  t28 := Try.underlying22
  a28 := Try.isAgg22
  z28 := Try.sizeOf22
  v28 := Try.zeroValue22
  t46 := Try.underlying80
  a46 := Try.isAgg80
  z46 := Try.sizeOf80
  v46 := Try.zeroValue80
  t51 := Try.underlying89
  a51 := Try.isAgg89
  z51 := Try.sizeOf89
  v51 := Try.zeroValue89
  t53 := Try.underlying91
  a53 := Try.isAgg91
  z53 := Try.sizeOf91
  v53 := Try.zeroValue91
  t131 := Try.underlying74
  a131 := Try.isAgg74
  z131 := Try.sizeOf74
  v131 := Try.zeroValue74
  t182 := Try.underlying82
  a182 := Try.isAgg82
  z182 := Try.sizeOf82
  v182 := Try.zeroValue82
  t183 := Try.underlying83
  a183 := Try.isAgg83
  z183 := Try.sizeOf83
  v183 := Try.zeroValue83
  t218 := Try.underlying92
  a218 := Try.isAgg92
  z218 := Try.sizeOf92
  v218 := Try.zeroValue92
  t222 := Try.underlying96
  a222 := Try.isAgg96
  z222 := Try.sizeOf96
  v222 := Try.zeroValue96
  t228 := Try.underlying98
  a228 := Try.isAgg98
  z228 := Try.sizeOf98
  v228 := Try.zeroValue98
  t229 := Try.underlying99
  a229 := Try.isAgg99
  z229 := Try.sizeOf99
  v229 := Try.zeroValue99 }
end Go.Proofs
namespace Go.Proofs.Ytipclbibomemjaa
open Go Go.RowKit Go.Maps Go.Sort Go.Shelf

def leI (x y : Int) : Bool := decide (x ≤ y)
theorem sort_nil (w : World) (a : Option Addr) (cap : Nat) : Calls Try.prog 41 #[.slice a 0 cap] w fun e w' => e = .returned (.tuple #[]) ∧ w' = w := Any.slices_Sort_int_none Try.lays189 a cap w
theorem sort_own (w : World) (g cap : Nat) (zs : List Int) (hown : w.ownsRow 0 3 1 (.slice (some ⟨g, 0, none⟩) zs.length cap) zs.length (zs.map (Value.int .i64))) (hl : zs.length < 4611686018427387904) :
    Calls Try.prog 41 #[.slice (some ⟨g, 0, none⟩) zs.length cap] w fun e w' => e = .returned (.tuple #[]) ∧ w'.ownsRow 0 3 1 (.slice (some ⟨g, 0, none⟩) zs.length cap) zs.length ((zs.mergeSort leI).map (Value.int .i64)) ∧ Chg (fun k => k = g) w w' := by
  rcases hown.2 with ⟨e, _⟩ | ⟨g', cap', cur, e, hb, hh, h1, h2, h3, h4⟩
  · cases e
  · cases e
    have ht : cur.toList.take zs.length = zs.map (Value.int .i64) := by
      have := h4
      rw [Nat.mul_one] at this
      exact this
    refine (Any.slices_Sort_int Try.lays189 g 0 cap zs w (holds_of_blockI hh ht) (heap_lt hh) hl).mono ?_
    rintro e w' ⟨rfl, n, os, rfl⟩
    refine ⟨rfl, ?_, (Chg.refl _ w).grown (grownBy_sortedI _) (fun k e => .inl (by cases e; rfl))⟩
    exact ownsRow_sortedI (List.length_mergeSort zs) (Nat.zero_le _) hh h1 h2 (by rw [h3])
end Go.Proofs.Ytipclbibomemjaa
