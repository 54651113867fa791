/- A law's bytes and pairs, opened. -/
import Derived.Test.YteejkkidnohcfaaGreatDoorD1
import Derived.Deep.Slices
import Derived.Deep.SlicePairs
import Derived.ChangeSame
import Derived.ProofKit
import Derived.OpenShut
namespace Go.Proofs.YteejkkidnohcfaaGreatDoor
open Go Go.RowKit Go.Maps
open Go.ChangeShapes Go.WideShapes Go.Deep

theorem wf8b {n : Int} (h : (Lit.int .u8 n).wf = true) : 0 ≤ n ∧ n < 256 := by
  simp [Lit.wf, IntKind.min, IntKind.max, IntKind.signed, IntKind.bits] at h
  omega
section
variable {H : Type} {enc : TypeId × Value → H} {w : World} {base : Nat} {spare : Nat → Bool} {held : Bool}

set_option maxRecDepth 100000 in
theorem open_bytes {v : Value} {fuel : Nat} {x : DataW H × List MemPlace} (hf : DataW.trod enc Tryz.prog w base spare held fuel 49 [v] = some x) :
    ∃ bs : Bytes, SeesB w v bs ∧ bs.length ≤ maxLen := by
  rcases open_slice1 Tryz.underlying49 cells5 hf with ⟨hcs, _⟩ | ⟨x, len, cap, m, n, V, D, Pl, hcs, _, hl, hm, hmm, hd, hi⟩
  · simp only [List.cons.injEq, and_true] at hcs
    subst hcs
    exact ⟨[], ⟨none, 0, rfl, fun _ => rfl, fun ad e => (by cases e)⟩, Nat.zero_le _⟩
  · simp only [List.cons.injEq, and_true] at hcs
    subst hcs
    have hlm : len ≤ m := by rw [hmm]; split <;> omega
    have hcell : ∀ i, i < len → ∃ y : UInt8, w.cell? (x.add i) = some (bV y) := fun i hilt => by
      obtain ⟨hc, ht⟩ := hi i (by omega)
      obtain ⟨n1, e1, _, w1⟩ := DataW.trod_int Tryz.underlying5 ht
      simp only [List.cons.injEq, and_true] at e1
      have hr := wf8b w1
      refine ⟨n1.toNat.toUInt8, ?_⟩
      rw [hc, e1]
      unfold bV
      congr 2
      have : n1.toNat.toUInt8.toNat = n1.toNat := by simp [Nat.toUInt8]; omega
      rw [this]; omega
    obtain ⟨f, hf⟩ := choose_lt hcell
    refine ⟨(List.range len).map f, ⟨some x, cap, by rw [List.length_map, List.length_range], fun e => (by cases e), fun ad e j y hy => ?_⟩, by rw [List.length_map, List.length_range]; omega⟩
    cases e
    have hilt : j < len := by have := (List.getElem?_eq_some_iff.1 hy).1; simpa using this
    rw [List.getElem?_map, List.getElem?_range hilt, Option.map_some] at hy
    cases hy
    exact hf j hilt

set_option maxRecDepth 100000 in
theorem open_pairs {v : Value} {fuel : Nat} {x : DataW H × List MemPlace} (hf : DataW.trod enc Tryz.prog w base spare held fuel 22 [v] = some x) :
    ∃ ps : List PairB, SeesP w v ps ∧ ps.length ≤ maxLen ∧ ∀ p ∈ ps, p.1.length ≤ maxLen ∧ p.2.length ≤ maxLen := by
  rcases open_slice_pairs Tryz.underlying22 Tryz.underlying54 cells44 rfl rfl (by kernel_rfl) (by kernel_rfl) hf with ⟨hcs, _⟩ | ⟨x, len, cap, m, n, V0, V1, D0, D1, P0, P1, hcs, _, hl, hm, hmm, hd, hi⟩
  · simp only [List.cons.injEq, and_true] at hcs
    subst hcs
    exact ⟨[], ⟨none, 0, rfl, fun _ => rfl, fun ad e => (by cases e)⟩, Nat.zero_le _, fun p hp => by cases hp⟩
  · simp only [List.cons.injEq, and_true] at hcs
    subst hcs
    have hlm : len ≤ m := by rw [hmm]; split <;> omega
    have each : ∀ i, i < len → ∃ p : PairB, (SeesB w (V0 i) p.1 ∧ p.1.length ≤ maxLen) ∧ (SeesB w (V1 i) p.2 ∧ p.2.length ≤ maxLen) := fun i hilt => by
      obtain ⟨_, _, t0, t1⟩ := hi i (by omega)
      obtain ⟨b0, h0⟩ := open_bytes t0
      obtain ⟨b1, h1⟩ := open_bytes t1
      exact ⟨(b0, b1), h0, h1⟩
    obtain ⟨f, hf⟩ := choose_lt each
    refine ⟨(List.range len).map f, ⟨some x, cap, by rw [List.length_map, List.length_range], fun e => (by cases e), fun ad e j y hy => ?_⟩, by rw [List.length_map, List.length_range]; omega, fun p hp => ?_⟩
    · cases e
      have hilt : j < len := by have := (List.getElem?_eq_some_iff.1 hy).1; simpa using this
      rw [List.getElem?_map, List.getElem?_range hilt, Option.map_some] at hy
      cases hy
      exact ⟨V0 j, V1 j, (hi j (by omega)).1, (hi j (by omega)).2.1, (hf j hilt).1.1, (hf j hilt).2.1⟩
    · obtain ⟨i, hi', rfl⟩ := List.mem_map.1 hp
      exact ⟨(hf i (List.mem_range.1 hi')).1.2, (hf i (List.mem_range.1 hi')).2.2⟩
end
end Go.Proofs.YteejkkidnohcfaaGreatDoor
