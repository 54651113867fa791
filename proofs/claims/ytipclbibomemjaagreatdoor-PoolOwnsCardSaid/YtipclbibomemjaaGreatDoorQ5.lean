/- A law's lists of numbers, opened. -/
import Derived.Test.YtipclbibomemjaaGreatDoorZ1
import Derived.Deep.Slices
import Derived.Deep.Fields
import Derived.ChangeSame
import Derived.ProofKit
import Derived.OpenShut
namespace Go.Proofs.YtipclbibomemjaaGreatDoor
open Go Go.RowKit Go.Maps
open Go.ChangeShapes Go.WideShapes Go.Deep

theorem cells3 : Tryz.prog.cellsOf 3 = 1 := by kernel_rfl
section
variable {H : Type} {enc : TypeId × Value → H} {w : World} {base : Nat} {spare : Nat → Bool} {held : Bool}

theorem wf_of_bounds {n : Int} (h : (Lit.int .i64 n).wf = true) : (Lit.int .i64 n).wf = true := h

set_option maxRecDepth 100000 in
theorem open_ints {v : Value} {fuel : Nat} {x : DataW H × List MemPlace} (hf : DataW.trod enc Tryz.prog w base spare held fuel 22 [v] = some x) :
    ∃ zs, SeesI w v zs ∧ (∀ x ∈ zs, (Lit.int .i64 x).wf = true) ∧ zs.length ≤ maxLen := by
  rcases open_slice1 Tryz.underlying22 cells3 hf with ⟨hcs, _⟩ | ⟨x, len, cap, m, n, V, D, Pl, hcs, _, hl, hm, hmm, hd, hi⟩
  · simp only [List.cons.injEq, and_true] at hcs
    subst hcs
    exact ⟨[], ⟨none, 0, rfl, fun _ => rfl, fun ad e => (by cases e)⟩, (fun x hx => by cases hx), Nat.zero_le _⟩
  · simp only [List.cons.injEq, and_true] at hcs
    subst hcs
    have hlm : len ≤ m := by rw [hmm]; split <;> omega
    have hcell : ∀ i, i < len → ∃ y : Int, w.cell? (x.add i) = some (.int .i64 y) ∧ (Lit.int .i64 y).wf = true := fun i hilt => by
      obtain ⟨hc, ht⟩ := hi i (by omega)
      obtain ⟨n1, e1, _, w1⟩ := DataW.trod_int Tryz.underlying3 ht
      simp only [List.cons.injEq, and_true] at e1
      refine ⟨n1, ?_, w1⟩
      rw [hc, e1]
    refine ⟨(List.range len).map (fun i => match w.cell? (x.add i) with | some (.int _ n) => n | _ => 0), ⟨some x, cap, by rw [List.length_map, List.length_range], fun e => (by cases e), fun ad e j y hy => ?_⟩, fun y hy => ?_, by rw [List.length_map, List.length_range]; omega⟩
    · cases e
      have hilt : j < len := by have := (List.getElem?_eq_some_iff.1 hy).1; simpa using this
      obtain ⟨y', hc, _⟩ := hcell j hilt
      rw [List.getElem?_map, List.getElem?_range hilt, Option.map_some, hc] at hy
      cases hy
      rw [hc]
    · obtain ⟨i, hi', rfl⟩ := List.mem_map.1 hy
      obtain ⟨y', hc, hw⟩ := hcell i (List.mem_range.1 hi')
      rw [hc]
      exact hw
end
end Go.Proofs.YtipclbibomemjaaGreatDoor
