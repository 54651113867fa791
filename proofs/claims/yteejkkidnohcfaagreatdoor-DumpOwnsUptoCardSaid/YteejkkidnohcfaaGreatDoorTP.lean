/- Words and walks that other texts of this seat hold, taken together. (Taken by pick.py.) -/
import Derived.Test.YteejkkidnohcfaaGreatDoorW16
import Derived.Test.YteejkkidnohcfaaGreatDoorW9
namespace Go.Proofs.YteejkkidnohcfaaGreatDoor
open Go Go.RowKit Go.Maps

theorem few_text {ps : List PairB} {t : Bytes} (h : FewP ps) (ht : textB ps = (t, 0)) : t.length ≤ 134217728 := by
  rw [text_ok ht, headOf, List.length_append, List.length_append, List.length_append]
  have h1 := h.lines
  have h2 := decB_length 3 ps.length (by have := h.len; omega)
  have h3 : word.length = 8 := rfl
  have h4 : ([10] : Bytes).length = 1 := rfl
  omega

theorem lineOf_bounds (p : PairB) : p.1.length + p.2.length + 1 ≤ (lineOf p).length := by
  have h (l : Bytes) : l.length ≤ (hexB l).length := by
    unfold hexB
    split
    · rename_i e; subst e; simp
    · rw [hexs_length]; omega
  have h1 := h p.1
  have h2 := h p.2
  simp only [lineOf, List.length_append, List.length_cons, List.length_nil]
  omega

theorem linesOf_all (q : List PairB) : q.length ≤ (linesOf q).length ∧ ∀ p ∈ q, p.1.length + p.2.length ≤ (linesOf q).length := by
  induction q with
  | nil => exact ⟨Nat.le_refl _, fun p hp => by cases hp⟩
  | cons x q ih =>
    have h := lineOf_bounds x
    rw [linesOf_cons, List.length_append, List.length_cons]
    refine ⟨by omega, fun p hp => ?_⟩
    rcases List.mem_cons.1 hp with rfl | hp
    · omega
    · have := ih.2 p hp; omega

theorem small_parse {q : List PairB} {t : Bytes} (ht : textB q = (t, 0)) (hl : t.length ≤ 1048576) : SmallP q := by
  have h1 := text_ok ht
  have h2 : (linesOf q).length ≤ t.length := by rw [h1, List.length_append]; omega
  obtain ⟨h3, h4⟩ := linesOf_all q
  exact ⟨fun p hp => by have := h4 p hp; omega, by omega, by omega⟩

end Go.Proofs.YteejkkidnohcfaaGreatDoor
