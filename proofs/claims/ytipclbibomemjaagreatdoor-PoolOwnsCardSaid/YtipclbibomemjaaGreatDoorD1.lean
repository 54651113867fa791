/- The pool as data, and how it lies in memory. -/
import Derived.Test.YtipclbibomemjaaGreatDoorHeap
import Derived.Maps.OwnOps
import Derived.Maps.RangeWalk
import Derived.Test.YtipclbibomemjaaGreatDoorProg
namespace Go.Proofs.YtipclbibomemjaaGreatDoor
open Go Go.RowKit Go.Maps

theorem law3 : Keyed Tryz.prog 3 := int_keyed Tryz.underlying3
noncomputable abbrev RI : Value → Option (DataW Unit × List MemPlace) := plainElem Tryz.prog 3
abbrev kI (x : Int) : Lit := .int .i64 x
abbrev dI (x : Int) : DataW Unit := .lit (.int .i64 x)

/-- A pool: its count, its cap, what is free (rising) and since when, the pins. -/
structure PS where
  size : Nat
  cap : Nat
  free : List (Nat × Int)
  pins : List Int
  wr : Nat

/-- The map of what is free. -/
structure FreeOf (M : DataW Unit) (L : List (Nat × Int)) : Prop where
  tidy : Tidy M
  size : Maps.size M = L.length
  has : ∀ x : Int, Maps.has M (kI x) = true ↔ ∃ q ∈ L, (q.1 : Int) = x
  at' : ∀ q ∈ L, ∀ z, M.atKey (kI q.1) z = dI q.2

/-- The map of the pins. -/
structure PinsOf (M : DataW Unit) (pins : List Int) : Prop where
  tidy : Tidy M
  has : ∀ x : Int, Maps.has M (kI x) = true ↔ x ∈ pins
  at' : ∀ x : Int, M.atKey (kI x) (dI 0) = dI (pins.count x)

theorem isKey (x : Int) : WideAt.IsKeyLit (kI x) := trivial
theorem kI_ne {x y : Int} (h : x ≠ y) : kI x ≠ kI y := fun e => h (by cases e; rfl)

theorem FreeOf.nil : FreeOf (.map []) [] := ⟨tidy_empty, rfl, fun x => by simp [Maps.has], fun q hq => by simp at hq⟩
theorem FreeOf.perm {M : DataW Unit} {L L' : List (Nat × Int)} (h : FreeOf M L) (hp : L.Perm L') : FreeOf M L' :=
  ⟨h.tidy, by rw [h.size, hp.length_eq], fun x => by rw [h.has]; exact ⟨fun ⟨q, h1, h2⟩ => ⟨q, hp.mem_iff.1 h1, h2⟩, fun ⟨q, h1, h2⟩ => ⟨q, hp.mem_iff.2 h1, h2⟩⟩, fun q hq => h.at' q (hp.mem_iff.2 hq)⟩
theorem FreeOf.not_has {M : DataW Unit} {L : List (Nat × Int)} (h : FreeOf M L) {x : Int} (hx : ∀ q ∈ L, (q.1 : Int) ≠ x) : Maps.has M (kI x) = false := by
  cases e : Maps.has M (kI x)
  · rfl
  · obtain ⟨q, h1, h2⟩ := (h.has x).1 e
    exact (hx q h1 h2).elim
theorem FreeOf.put {M : DataW Unit} {L : List (Nat × Int)} (h : FreeOf M L) (n : Nat) (s : Int) (hn : ∀ q ∈ L, q.1 ≠ n) : FreeOf (M.put (kI n) (dI s)) (L ++ [(n, s)]) := by
  have hno := h.not_has (x := n) (fun q hq e => hn q hq (by omega))
  refine ⟨h.tidy.put (isKey _) _, ?_, fun x => ?_, fun q hq z => ?_⟩
  · rw [size_put h.tidy, hno, h.size]; simp
  · by_cases e : x = n
    · subst e
      rw [has_put_same h.tidy.isMap (isKey _)]
      simp
    · rw [has_put_other (kI_ne e), h.has]
      constructor
      · rintro ⟨q, h1, h2⟩; exact ⟨q, by simp [h1], h2⟩
      · rintro ⟨q, h1, h2⟩
        rcases List.mem_append.1 h1 with e1 | e1
        · exact ⟨q, e1, h2⟩
        · simp at e1; subst e1; exact (e h2.symm).elim
  · rcases List.mem_append.1 hq with e1 | e1
    · rw [atKey_put_other (kI_ne (by have := hn q e1; omega))]
      exact h.at' q e1 z
    · simp at e1; subst e1
      exact atKey_put_same h.tidy.isMap (isKey _) _ _
theorem FreeOf.del {M : DataW Unit} {L : List (Nat × Int)} (h : FreeOf M L) (hL : L.Pairwise fun p q => p.1 ≠ q.1) (n : Nat) : FreeOf (M.del (kI n)) (L.filter fun q => q.1 != n) := by
  have hl : (L.filter fun q => q.1 != n).length + (if Maps.has M (kI n) then 1 else 0) = L.length := by
    have key : ∀ L : List (Nat × Int), L.Pairwise (fun p q => p.1 ≠ q.1) → (L.filter fun q => q.1 != n).length + (if L.any (fun q => q.1 == n) then 1 else 0) = L.length := by
      intro L
      induction L with
      | nil => intro _; rfl
      | cons q L ih =>
        intro hp
        obtain ⟨h1, h2⟩ := List.pairwise_cons.1 hp
        have := ih h2
        by_cases e : q.1 = n
        · have hno : L.any (fun q => q.1 == n) = false := by
            rw [List.any_eq_false]; intro p hp' e2
            have : q.1 ≠ p.1 := h1 p hp'
            rw [beq_iff_eq] at e2
            omega
          rw [hno] at this
          simp [e, hno] at this ⊢
          exact this
        · have e3 : (q.1 != n) = true := by rw [bne_iff_ne]; exact e
          have e4 : (q.1 == n) = false := by rw [beq_eq_false_iff_ne]; exact e
          rw [List.filter_cons, e3, if_pos rfl, List.length_cons, List.any_cons, e4, Bool.false_or, List.length_cons]
          omega
    have e : (Maps.has M (kI n)) = L.any (fun q => q.1 == n) := by
      rw [Bool.eq_iff_iff, h.has, List.any_eq_true]
      constructor
      · rintro ⟨q, h1, h2⟩; exact ⟨q, h1, by rw [beq_iff_eq]; omega⟩
      · rintro ⟨q, h1, h2⟩; exact ⟨q, h1, by rw [beq_iff_eq] at h2; omega⟩
    rw [e]; exact key L hL
  refine ⟨h.tidy.del _, ?_, fun x => ?_, fun q hq z => ?_⟩
  · have := size_del (k := kI n) h.tidy
    rw [h.size] at this
    omega
  · by_cases e : x = n
    · subst e
      rw [has_del_same]
      constructor
      · intro hf; cases hf
      · rintro ⟨q, h1, h2⟩
        have := (List.mem_filter.1 h1).2
        rw [bne_iff_ne] at this
        omega
    · rw [has_del_other (kI_ne e), h.has]
      constructor
      · rintro ⟨q, h1, h2⟩; exact ⟨q, List.mem_filter.2 ⟨h1, by rw [bne_iff_ne]; omega⟩, h2⟩
      · rintro ⟨q, h1, h2⟩; exact ⟨q, (List.mem_filter.1 h1).1, h2⟩
  · obtain ⟨h1, h2⟩ := List.mem_filter.1 hq
    rw [bne_iff_ne] at h2
    rw [atKey_del_other (kI_ne (by omega))]
    exact h.at' q h1 z

theorem PinsOf.nil : PinsOf (.map []) [] := ⟨tidy_empty, fun x => by simp [Maps.has], fun x => atKey_of_not_has rfl _⟩
theorem PinsOf.pin {M : DataW Unit} {pins : List Int} (h : PinsOf M pins) (x : Int) : PinsOf (M.put (kI x) (dI (pins.count x + 1 : Nat))) (pins ++ [x]) := by
  refine ⟨h.tidy.put (isKey _) _, fun y => ?_, fun y => ?_⟩
  · by_cases e : y = x
    · subst e; rw [has_put_same h.tidy.isMap (isKey _)]; simp
    · rw [has_put_other (kI_ne e), h.has]; simp [e]
  · by_cases e : y = x
    · subst e; rw [atKey_put_same h.tidy.isMap (isKey _)]; simp
    · rw [atKey_put_other (kI_ne e), h.at', List.count_append]; simp [Ne.symm e]
theorem PinsOf.unpin {M : DataW Unit} {pins : List Int} (h : PinsOf M pins) (x : Int) (hc : 1 < pins.count x) : PinsOf (M.put (kI x) (dI (pins.count x - 1 : Nat))) (pins.erase x) := by
  have hx : x ∈ pins := List.count_pos_iff.1 (by omega)
  refine ⟨h.tidy.put (isKey _) _, fun y => ?_, fun y => ?_⟩
  · by_cases e : y = x
    · subst e; rw [has_put_same h.tidy.isMap (isKey _)]
      have : 0 < (pins.erase y).count y := by rw [List.count_erase_self]; omega
      simp [List.count_pos_iff.1 this]
    · rw [has_put_other (kI_ne e), h.has, List.mem_erase_of_ne e]
  · by_cases e : y = x
    · subst e; rw [atKey_put_same h.tidy.isMap (isKey _), List.count_erase_self]
    · rw [atKey_put_other (kI_ne e), h.at', List.count_erase_of_ne e]
theorem PinsOf.last {M : DataW Unit} {pins : List Int} (h : PinsOf M pins) (x : Int) (hc : pins.count x = 1) (d : DataW Unit) : PinsOf ((M.put (kI x) d).del (kI x)) (pins.erase x) := by
  have hx : x ∈ pins := List.count_pos_iff.1 (by omega)
  refine ⟨(h.tidy.put (isKey _) _).del _, fun y => ?_, fun y => ?_⟩
  · by_cases e : y = x
    · subst e; rw [has_del_same]
      have : (pins.erase y).count y = 0 := by rw [List.count_erase_self]; omega
      simp [List.count_eq_zero.1 this]
    · rw [has_del_other (kI_ne e), has_put_other (kI_ne e), h.has, List.mem_erase_of_ne e]
  · by_cases e : y = x
    · subst e; rw [atKey_del_same, List.count_erase_self, hc]; rfl
    · rw [atKey_del_other (kI_ne e), atKey_put_other (kI_ne e), h.at', List.count_erase_of_ne e]
end Go.Proofs.YtipclbibomemjaaGreatDoor
