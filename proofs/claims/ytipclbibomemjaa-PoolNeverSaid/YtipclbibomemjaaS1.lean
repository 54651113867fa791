/- slices.Sort at []int: the library's contract, laid at this program. -/
import Derived.Shelf.Lay
import Derived.Shelf.Sort.Plain
import Derived.Shelf.Slices.In.SortNone
import Derived.Sort.OwnSortedInts
import Derived.Test.YtipclbibomemjaaU2
namespace Go.Proofs
open Go.Shelf
shelf_lay Lays.n189 Nm 189 at Try as Try.lays189
end Go.Proofs
namespace Go.Proofs.Ytipclbibomemjaa
open Go Go.RowKit Go.Maps Go.Sort Go.Shelf

def leI (x y : Int) : Bool := decide (x ≤ y)
theorem sort_nil (w : World) (a : Option Addr) (cap : Nat) : Calls Try.prog 41 #[.slice a 0 cap] w fun e w' => e = .returned (.tuple #[]) ∧ w' = w := Any.slices_Sort_int_none Try.lays189 a cap w
theorem sort_own (w : World) (g cap : Nat) (zs : List Int) (hown : w.ownsRow 0 3 1 (.slice (some ⟨g, 0, none⟩) zs.length cap) zs.length (zs.map (Value.int .i64))) (hl : zs.length < 4611686018427387904) :
    Calls Try.prog 41 #[.slice (some ⟨g, 0, none⟩) zs.length cap] w fun e w' => e = .returned (.tuple #[]) ∧ w'.ownsRow 0 3 1 (.slice (some ⟨g, 0, none⟩) zs.length cap) zs.length ((zs.mergeSort leI).map (Value.int .i64)) ∧ Chg (fun k => k = g) w w' := by
  rcases hown.2 with ⟨e, _⟩ | ⟨g', cap', cur, e, hb, hh, h1, h2, h3, h4⟩
  · cases e
  · cases e
    have ht : cur.toList.take zs.length = zs.map (Value.int .i64) := by
      have := h4
      rw [Nat.mul_one] at this
      exact this
    refine (Any.slices_Sort_int Try.lays189 g 0 cap zs w (holds_of_blockI hh ht) (heap_lt hh) hl).mono ?_
    rintro e w' ⟨rfl, n, os, rfl⟩
    refine ⟨rfl, ?_, (Chg.refl _ w).grown (grownBy_sortedI _) (fun k e => .inl (by cases e; rfl))⟩
    exact ownsRow_sortedI (List.length_mergeSort zs) (Nat.zero_le _) hh h1 h2 (by rw [h3])
end Go.Proofs.Ytipclbibomemjaa
