/- A row of bytes whose block is marked at its end, as '[]byte(s)' makes it: cells stored one by one, and a string appended. -/
import Derived.Test.YteejkkidnohcfaaGreatDoorW9
import Derived.Lib.FrozenHead
import Derived.Lib.AppendStr
import Derived.Lib.ConvBytes
namespace Go.Proofs.YteejkkidnohcfaaGreatDoor
open Go Go.RowKit Go.Maps

theorem store_run (P : Program) (g : Nat) (t : TypeId) (fz : Nat × Nat) : ∀ (vs : List Value) (o i : Nat) (cur : Array Value) (w : World), w.heap[g]? = some (.cells cur t fz) → (∀ j, j < vs.length → ¬ (fz.1 ≤ o + i + j ∧ o + i + j < fz.2)) → o + i + vs.length ≤ cur.size → (∀ v ∈ vs, v.oneCell' = true) →
    ∃ w' cur', (storeCells ⟨g, o, none⟩ vs i).run P w = .ok () w' ∧ w'.heap[g]? = some (.cells cur' t fz) ∧ cur'.size = cur.size ∧ (∀ j, (j < o + i ∨ o + i + vs.length ≤ j) → cur'[j]? = cur[j]?) ∧ (∀ (j : Nat) v, vs[j]? = some v → cur'[o + i + j]? = some v) ∧ Chg (fun k => k = g) w w'
  | [], o, i, cur, w, hg, _, _, _ => ⟨w, cur, rfl, hg, rfl, fun _ _ => rfl, fun j v hv => by simp at hv, Chg.refl _ _⟩
  | v :: rest, o, i, cur, w, hg, hfz, hl, h1 => by
    simp only [List.length_cons] at hl hfz
    have hi : o + i < cur.size := by omega
    have hcell : w.cell? ⟨g, o + i, none⟩ = some cur[o + i] := by simp [World.cell?, hg, hi]
    have hfro : w.frozen? ⟨g, o + i, none⟩ = false := by
      have := hfz 0 (by omega)
      simp [World.frozen?, hg]; omega
    have hst : (store ((⟨g, o, none⟩ : Addr).add i) v).run P w = .ok () (w.setCell ⟨g, o + i, none⟩ v) := by
      rw [addr_add, run_store P w _ v _ (h1 v (by simp)), hcell]; simp [hfro]
    obtain ⟨w', cur', hr, hg', hs', ho', hn', hc'⟩ := store_run P g t fz rest o (i + 1) (cur.setIfInBounds (o + i) v) (w.setCell ⟨g, o + i, none⟩ v) (heap_setCell_same v hg) (fun j hj => by have := hfz (j + 1) (by omega); rw [show o + (i + 1) + j = o + i + (j + 1) by omega]; exact this) (by simp; omega) (fun x hx => h1 x (by simp [hx]))
    refine ⟨w', cur', by simp only [storeCells, Sem.run_bind, hst, Result.andThen_ok]; exact hr, hg', by simpa using hs', fun j hj => ?_, fun j u hu => ?_, ?_⟩
    · simp only [List.length_cons] at hj
      rw [ho' j (by omega), Array.getElem?_setIfInBounds_ne (by omega)]
    · cases j with
      | zero =>
        simp only [List.getElem?_cons_zero, Option.some.injEq] at hu
        subst hu
        rw [Nat.add_zero, ho' (o + i) (by omega), Array.getElem?_setIfInBounds_self]
        simp [hi]
      | succ j =>
        rw [List.getElem?_cons_succ] at hu
        have := hn' j u hu
        rwa [show o + (i + 1) + j = o + i + (j + 1) by omega] at this
    · exact ((Chg.refl (fun k => k = g) w).setCell (p := ⟨g, o + i, none⟩) (Or.inl rfl) v).trans hc' (fun x hx => Or.inl hx)
end Go.Proofs.YteejkkidnohcfaaGreatDoor
