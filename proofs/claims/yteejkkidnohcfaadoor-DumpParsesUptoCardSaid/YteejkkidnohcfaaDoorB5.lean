/- Plain words: the document's number, its one space, its line; of no program. -/
import Derived.Test.YteejkkidnohcfaaDoorB2
namespace Go.Proofs.YteejkkidnohcfaaDoor
open Go

/-- number: -1: it is none. -/
def numI (l : Bytes) : Int := match numB l with | some n => (n : Int) | none => -1
theorem numB_long {l : Bytes} (h : 10 < l.length) : numB l = none := by
  cases e : numB l with
  | none => rfl
  | some n =>
    obtain ⟨h1, h2⟩ := numB_iff.1 e
    have := decB_length 9 n (by omega)
    rw [← h1] at this; omega
theorem numB_nil : numB [] = none := rfl
theorem numB_zero {l : Bytes} (h : 1 < l.length) (h0 : l[0]? = some 48) : numB l = none := by
  cases e : numB l with
  | none => rfl
  | some n =>
    obtain ⟨h1, h2⟩ := numB_iff.1 e
    rcases Nat.eq_zero_or_pos n with rfl | hn
    · rw [h1] at h
      unfold decB at h
      rw [if_pos (by omega)] at h
      simp at h
    · have := decB_head n hn
      rw [← h1, List.head?_eq_getElem?] at this
      exact (this h0).elim
theorem numB_bad {l : Bytes} {i : Nat} {c : UInt8} (h : l[i]? = some c) (hc : isdig c = false) : numB l = none := by
  cases e : numB l with
  | none => rfl
  | some n =>
    obtain ⟨h1, h2⟩ := numB_iff.1 e
    have := List.all_eq_true.1 (decB_all n) c (by rw [← h1]; exact List.mem_of_getElem? h)
    rw [hc] at this; cases this
theorem numB_good {l : Bytes} (h0 : l ≠ []) (h1 : l.length ≤ 1 ∨ l[0]? ≠ some 48) (h2 : l.all isdig = true) : numB l = if valB l ≤ 2147483647 then some (valB l) else none := by
  have ht : tidyNum l = true := by
    unfold tidyNum
    rw [h2]
    cases l with
    | nil => exact (h0 rfl).elim
    | cons a l =>
      simp only [List.isEmpty_cons, Bool.not_false, Bool.true_and, Bool.and_true, Bool.or_eq_true, decide_eq_true_eq, bne_iff_ne, List.head?_cons]
      simpa using h1
  unfold numB
  rw [ht]
  simp
theorem valB_lt' : ∀ (k : Nat) (l : Bytes), l.length = k → l.all isdig = true → valB l < 10 ^ k := by
  intro k
  induction k with
  | zero =>
    intro l hl _
    obtain rfl : l = [] := List.eq_nil_of_length_eq_zero hl
    decide
  | succ k ih =>
    intro l hl h
    rcases snoc_cases l with rfl | ⟨m, c, rfl⟩
    · simp at hl
    · rw [List.all_append, Bool.and_eq_true] at h
      have h1 := ih m (by simpa using hl) h.1
      have h2 : isdig c = true := by simpa using h.2
      have h3 := isdig_lt h2
      rw [valB_snoc, Nat.pow_succ]
      omega
theorem valB_lt {l : Bytes} (h : l.all isdig = true) : valB l < 10 ^ l.length := valB_lt' _ l rfl h

/-! ### One space -/
/-- Where the one space of a line stands; -1: it has not just one. -/
def spaceI (l : Bytes) : Int := match cutAt 32 l with | none => -1 | some (a, b) => if 32 ∈ b then -1 else a.length
theorem cutAt_more {c : UInt8} : ∀ {l a b : Bytes} (m : Bytes), cutAt c l = some (a, b) → cutAt c (l ++ m) = some (a, b ++ m)
  | [], a, b, m, h => by cases h
  | x :: l, a, b, m, h => by
    unfold cutAt at h
    simp only [List.cons_append]
    unfold cutAt
    split at h
    · rename_i e; cases h; rw [if_pos e]
    · rename_i e
      simp only [Option.map_eq_some_iff] at h
      obtain ⟨⟨p, q⟩, h1, h2⟩ := h
      cases h2
      rw [if_neg e, cutAt_more m h1]; rfl
theorem cutAt_snoc_none {c x : UInt8} {l : Bytes} (h : cutAt c l = none) (hx : x ≠ c) : cutAt c (l ++ [x]) = none := by
  rw [cutAt_none] at h ⊢
  simp [h, Ne.symm hx]
theorem cutAt_snoc_some {c : UInt8} {l : Bytes} (h : cutAt c l = none) : cutAt c (l ++ [c]) = some (l, []) := cutAt_append [] (cutAt_none.1 h)
/-- Behind k bytes: where the space stands, so far; not two so far. -/
def SpaceTo (l : Bytes) (k : Nat) (n : Int) : Prop :=
  (cutAt 32 (l.take k) = none ∧ n = -1) ∨ ∃ a b, cutAt 32 (l.take k) = some (a, b) ∧ 32 ∉ b ∧ n = a.length
theorem take_one {l : Bytes} {k : Nat} {x : UInt8} (h : l[k]? = some x) : l.take (k + 1) = l.take k ++ [x] := by rw [List.take_add_one, h]; rfl
theorem SpaceTo.zero (l : Bytes) : SpaceTo l 0 (-1) := .inl ⟨rfl, rfl⟩
theorem SpaceTo.other {l : Bytes} {k : Nat} {n : Int} {x : UInt8} (h : SpaceTo l k n) (hx : l[k]? = some x) (hne : x ≠ 32) : SpaceTo l (k + 1) n := by
  unfold SpaceTo
  rw [take_one hx]
  rcases h with ⟨h1, h2⟩ | ⟨a, b, h1, h2, h3⟩
  · exact .inl ⟨cutAt_snoc_none h1 hne, h2⟩
  · exact .inr ⟨a, b ++ [x], cutAt_more _ h1, by simp [h2, Ne.symm hne], h3⟩
theorem SpaceTo.first {l : Bytes} {k : Nat} {n : Int} (h : SpaceTo l k n) (hx : l[k]? = some 32) (hn : n < 0) : SpaceTo l (k + 1) (k : Int) := by
  unfold SpaceTo
  rw [take_one hx]
  rcases h with ⟨h1, h2⟩ | ⟨a, b, h1, h2, h3⟩
  · have hlt := (List.getElem?_eq_some_iff.1 hx).1
    exact .inr ⟨_, [], cutAt_snoc_some h1, by simp, by rw [List.length_take]; omega⟩
  · omega
theorem SpaceTo.second {l : Bytes} {k : Nat} {n : Int} (h : SpaceTo l k n) (hx : l[k]? = some 32) (hn : 0 ≤ n) : spaceI l = -1 := by
  rcases h with ⟨h1, h2⟩ | ⟨a, b, h1, h2, h3⟩
  · omega
  · have e : cutAt 32 l = some (a, b ++ l.drop k) := by
      have := cutAt_more (l.drop k) h1
      rwa [List.take_append_drop] at this
    unfold spaceI
    rw [e]
    have : (32 : UInt8) ∈ l.drop k := by
      obtain ⟨h4, h5⟩ := List.getElem?_eq_some_iff.1 hx
      rw [List.drop_eq_getElem_cons h4, h5]; simp
    simp [this]
theorem SpaceTo.all {l : Bytes} {n : Int} (h : SpaceTo l l.length n) : n = spaceI l := by
  unfold SpaceTo at h
  rw [List.take_length] at h
  unfold spaceI
  rcases h with ⟨h1, h2⟩ | ⟨a, b, h1, h2, h3⟩
  · rw [h1]; exact h2
  · rw [h1]; simp only [if_neg h2]; exact h3
theorem SpaceTo.lo {l : Bytes} {k : Nat} {n : Int} (h : SpaceTo l k n) : -1 ≤ n ∧ n ≤ k := by
  rcases h with ⟨_, h2⟩ | ⟨a, b, h1, h2, h3⟩
  · omega
  · have := congrArg List.length (cutAt_some h1).1
    rw [List.length_take, List.length_append] at this
    omega

/-! ### A line -/
/-- What a line says, whatever stands ahead of it. -/
def pairB (line : Bytes) : PairB × Int := lineB line none
theorem lineB_last (line m : Bytes) : (lineB line (some m)).2 = if (pairB line).2 = 0 then (if Op.bytesLess m (pairB line).1.1 = true then 0 else 30) else (pairB line).2 := by
  unfold pairB lineB
  split
  · rfl
  · split
    · rfl
    · split
      · rfl
      · split
        · rfl
        · split
          · rfl
          · rename_i a _ _ _ b _
            simp only []
            unfold mayB
            split
            · rfl
            · simp
theorem lineB_fst (line : Bytes) (last : Option Bytes) : (lineB line last).1 = (pairB line).1 := by
  unfold pairB lineB
  split
  · rfl
  · split
    · rfl
    · split
      · rfl
      · split
        · rfl
        · split <;> rfl
theorem pairB_text {line : Bytes} (h : spaceI line < 1 ∨ spaceI line = line.length - 1) : pairB line = (([], []), 200) := by
  unfold pairB lineB
  unfold spaceI at h
  cases e : cutAt 32 line with
  | none => rfl
  | some q =>
    obtain ⟨a, b⟩ := q
    rw [e] at h
    simp only [] at h ⊢
    have hl := congrArg List.length (cutAt_some e).1
    rw [List.length_append, List.length_cons] at hl
    by_cases hb : 32 ∈ b
    · rw [if_pos (.inr (.inr hb))]
    · rw [if_neg hb] at h
      rw [if_pos]
      rcases h with h | h
      · exact .inl (List.eq_nil_of_length_eq_zero (by omega))
      · exact .inr (.inl (List.eq_nil_of_length_eq_zero (by omega)))
theorem pairB_cut {line : Bytes} {n : Nat} (h : spaceI line = (n : Int)) (h1 : 1 ≤ n) (h2 : (n : Int) ≠ line.length - 1) :
    n < line.length ∧ pairB line = match unhexB (line.take n) with
      | none => (([], []), 201)
      | some a => if a.length < 1 ∨ 255 < a.length then (([], []), 41) else match unhexB (line.drop (n + 1)) with | none => (([], []), 201) | some b => ((a, b), mayB a b none) := by
  unfold spaceI at h
  cases e : cutAt 32 line with
  | none => rw [e] at h; simp only [] at h; omega
  | some q =>
    obtain ⟨a, b⟩ := q
    rw [e] at h
    simp only [] at h
    have hs := (cutAt_some e).1
    have hl := congrArg List.length hs
    rw [List.length_append, List.length_cons] at hl
    split at h
    · omega
    · rename_i hb
      have hn : n = a.length := by omega
      subst hn
      have ha : a ≠ [] := fun e => by rw [e] at h1; simp at h1
      have hb0 : b ≠ [] := fun e => by rw [e] at hl; simp at hl; omega
      have e1 : line.take a.length = a := by rw [hs, List.take_left' rfl]
      have e2 : line.drop (a.length + 1) = b := by rw [hs, List.drop_append]; simp
      refine ⟨by omega, ?_⟩
      rw [e1, e2]
      unfold pairB lineB
      rw [e]
      simp only []
      rw [if_neg (by simp [ha, hb0, hb])]
      rfl
end Go.Proofs.YteejkkidnohcfaaDoor
