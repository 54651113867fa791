/- Plain words on texts: hex digits, decimal numbers, lines; there and back; of no program. -/
import Derived.WalkKit
namespace Go.Proofs.YteejkkidnohcfaaGreatDoor

abbrev Bytes := List UInt8

/-- The digit of a number below 16. -/
def hexd (n : Nat) : UInt8 := if n < 10 then (48 + n).toUInt8 else (87 + n).toUInt8
/-- What a byte stands for. -/
def undig (c : UInt8) : Option Nat := if 48 ≤ c.toNat ∧ c.toNat ≤ 57 then some (c.toNat - 48) else if 97 ≤ c.toNat ∧ c.toNat ≤ 102 then some (c.toNat - 87) else none

theorem undig_hexd (n : Nat) (h : n < 16) : undig (hexd n) = some n := by
  have : ∀ m, m < 16 → undig (hexd m) = some m := by decide
  exact this n h
theorem undig_lt {c : UInt8} {n : Nat} (h : undig c = some n) : n < 16 := by
  unfold undig at h
  split at h
  · injection h with h; omega
  · split at h
    · injection h with h; omega
    · cases h
theorem hexd_undig {c : UInt8} {n : Nat} (h : undig c = some n) : hexd n = c := by
  unfold undig at h
  have hc := c.toNat_lt
  split at h
  · injection h with h
    unfold hexd
    rw [if_pos (by omega)]
    apply UInt8.toNat_inj.1
    rw [Nat.toUInt8_eq, UInt8.toNat_ofNat']
    omega
  · split at h
    · injection h with h
      unfold hexd
      rw [if_neg (by omega)]
      apply UInt8.toNat_inj.1
      rw [Nat.toUInt8_eq, UInt8.toNat_ofNat']
      omega
    · cases h
theorem hexd_ne_nl (n : Nat) (h : n < 16) : hexd n ≠ 10 ∧ hexd n ≠ 32 ∧ hexd n ≠ 45 := by
  have : ∀ m, m < 16 → hexd m ≠ 10 ∧ hexd m ≠ 32 ∧ hexd m ≠ 45 := by decide
  exact this n h

def hexs (l : Bytes) : Bytes := l.flatMap fun b => [hexd (b.toNat / 16), hexd (b.toNat % 16)]
/-- Hex. -/
def hexB (l : Bytes) : Bytes := if l = [] then [45] else hexs l
def unpairs : Bytes → Option Bytes
  | [] => some []
  | [_] => none
  | a :: b :: l =>
    match undig a, undig b with
    | some x, some y => (unpairs l).map fun r => (16 * x + y).toUInt8 :: r
    | _, _ => none
/-- Unhex. -/
def unhexB (t : Bytes) : Option Bytes := if t = [45] then some [] else if t = [] then none else unpairs t

theorem hexs_cons (b : UInt8) (l : Bytes) : hexs (b :: l) = hexd (b.toNat / 16) :: hexd (b.toNat % 16) :: hexs l := rfl
theorem hexs_append (l m : Bytes) : hexs (l ++ m) = hexs l ++ hexs m := by simp [hexs]
theorem hexs_length (l : Bytes) : (hexs l).length = 2 * l.length := by
  induction l with
  | nil => rfl
  | cons b l ih => rw [hexs_cons]; simp only [List.length_cons, ih]; omega
theorem unpairs_hexs (l : Bytes) : unpairs (hexs l) = some l := by
  induction l with
  | nil => rfl
  | cons b l ih =>
    have hb := b.toNat_lt
    rw [hexs_cons]
    unfold unpairs
    rw [undig_hexd _ (by omega), undig_hexd _ (by omega)]
    simp only [ih, Option.map_some]
    congr 2
    apply UInt8.toNat_inj.1
    rw [Nat.toUInt8_eq, UInt8.toNat_ofNat']
    omega
theorem hexs_unpairs : ∀ (t l : Bytes), unpairs t = some l → hexs l = t
  | [], l, h => by unfold unpairs at h; cases h; rfl
  | [_], l, h => by unfold unpairs at h; cases h
  | a :: b :: t, l, h => by
    unfold unpairs at h
    cases e1 : undig a with
    | none => rw [e1] at h; cases h
    | some x =>
      cases e2 : undig b with
      | none => rw [e1, e2] at h; cases h
      | some y =>
        rw [e1, e2] at h
        simp only [Option.map_eq_some_iff] at h
        obtain ⟨r, h1, rfl⟩ := h
        have hx := undig_lt e1
        have hy := undig_lt e2
        have hn : (16 * x + y).toUInt8.toNat = 16 * x + y := by rw [Nat.toUInt8_eq, UInt8.toNat_ofNat']; omega
        rw [hexs_cons, hn, hexs_unpairs t r h1, show (16 * x + y) / 16 = x by omega, show (16 * x + y) % 16 = y by omega, hexd_undig e1, hexd_undig e2]
theorem unhex_hex (l : Bytes) : unhexB (hexB l) = some l := by
  unfold hexB unhexB
  cases l with
  | nil => rfl
  | cons b l =>
    have h1 : hexs (b :: l) ≠ [45] := by rw [hexs_cons]; simp
    have h2 : hexs (b :: l) ≠ [] := by rw [hexs_cons]; simp
    rw [if_neg (show ¬ b :: l = [] by simp), if_neg h1, if_neg h2, unpairs_hexs]
theorem hex_unhex {t l : Bytes} (h : unhexB t = some l) : hexB l = t := by
  unfold unhexB at h
  split at h
  · cases h; rename_i e; rw [e]; rfl
  · split at h
    · cases h
    · have h1 := hexs_unpairs t l h
      unfold hexB
      rw [if_neg, h1]
      intro e
      subst e
      rename_i h2
      exact h2 h1.symm
theorem hexs_mem {l : Bytes} {c : UInt8} (h : c ∈ hexs l) : c ≠ 10 ∧ c ≠ 32 ∧ c ≠ 45 := by
  induction l with
  | nil => cases h
  | cons b l ih =>
    have hb := b.toNat_lt
    rw [hexs_cons] at h
    rcases List.mem_cons.1 h with rfl | h
    · exact hexd_ne_nl _ (by omega)
    · rcases List.mem_cons.1 h with rfl | h
      · exact hexd_ne_nl _ (by omega)
      · exact ih h
theorem hexB_mem {l : Bytes} {c : UInt8} (h : c ∈ hexB l) : c ≠ 10 ∧ c ≠ 32 := by
  unfold hexB at h
  split at h
  · simp only [List.mem_singleton] at h; subst h; decide
  · exact ⟨(hexs_mem h).1, (hexs_mem h).2.1⟩
theorem hexB_ne (l : Bytes) : hexB l ≠ [] := by
  unfold hexB
  split
  · simp
  · rename_i h
    cases l with
    | nil => exact (h rfl).elim
    | cons b l => rw [hexs_cons]; simp
theorem hexB_length (l : Bytes) : (hexB l).length ≤ 2 * l.length + 1 := by
  unfold hexB
  split
  · simp
  · rw [hexs_length]; omega

/-! ### Numbers -/
def decd (n : Nat) : UInt8 := (48 + n).toUInt8
/-- A number in decimal digits. -/
def decB (n : Nat) : Bytes := if n < 10 then [decd n] else decB (n / 10) ++ [decd (n % 10)]
termination_by n
decreasing_by omega
def isdig (c : UInt8) : Bool := decide (48 ≤ c.toNat) && decide (c.toNat ≤ 57)
def valB (l : Bytes) : Nat := l.foldl (fun a c => 10 * a + (c.toNat - 48)) 0
def tidyNum (l : Bytes) : Bool := !l.isEmpty && l.all isdig && (decide (l.length ≤ 1) || l.head? != some 48)
/-- A number that stands in a text: none, if it is none, or above 2147483647. -/
def numB (l : Bytes) : Option Nat := if tidyNum l = true ∧ valB l ≤ 2147483647 then some (valB l) else none

theorem decd_toNat {n : Nat} (h : n < 10) : (decd n).toNat = 48 + n := by
  unfold decd; rw [Nat.toUInt8_eq, UInt8.toNat_ofNat']; omega
theorem valB_snoc (l : Bytes) (c : UInt8) : valB (l ++ [c]) = 10 * valB l + (c.toNat - 48) := by simp [valB]
theorem valB_dec (n : Nat) : valB (decB n) = n := by
  induction n using Nat.strongRecOn with
  | _ n ih =>
    unfold decB
    split
    · rename_i h; simp only [valB, List.foldl_cons, List.foldl_nil, decd_toNat h]; omega
    · rename_i h
      rw [valB_snoc, ih _ (by omega), decd_toNat (by omega)]; omega
theorem decB_ne (n : Nat) : decB n ≠ [] := by unfold decB; split <;> simp
theorem decB_all (n : Nat) : (decB n).all isdig = true := by
  induction n using Nat.strongRecOn with
  | _ n ih =>
    unfold decB
    split
    · rename_i h; simp [isdig, decd_toNat h]; omega
    · rename_i h
      rw [List.all_append, ih _ (by omega)]
      simp [isdig, decd_toNat (show n % 10 < 10 by omega)]; omega
theorem decB_head (n : Nat) (h : 0 < n) : (decB n).head? ≠ some 48 := by
  induction n using Nat.strongRecOn with
  | _ n ih =>
    unfold decB
    split
    · rename_i h1
      simp only [List.head?_cons, ne_eq, Option.some.injEq]
      intro e
      have := congrArg UInt8.toNat e
      rw [decd_toNat h1] at this
      simp at this; omega
    · rename_i h1
      have := ih (n / 10) (by omega) (by omega)
      cases e : decB (n / 10) with
      | nil => exact (decB_ne _ e).elim
      | cons a l => rw [e] at this; simpa using this
theorem decB_tidy (n : Nat) : tidyNum (decB n) = true := by
  unfold tidyNum
  rw [decB_all]
  have : (decB n).isEmpty = false := by cases e : decB n with | nil => exact (decB_ne n e).elim | cons a l => rfl
  rw [this]
  simp only [Bool.not_false, Bool.true_and, Bool.and_true, Bool.or_eq_true, decide_eq_true_eq, bne_iff_ne]
  by_cases h : n < 10
  · left; unfold decB; rw [if_pos h]; simp
  · right; exact decB_head n (by omega)
theorem decd_of {c : UInt8} (h : isdig c = true) : decd (c.toNat - 48) = c := by
  simp only [isdig, Bool.and_eq_true, decide_eq_true_eq] at h
  apply UInt8.toNat_inj.1
  rw [decd_toNat (by omega)]; omega
theorem isdig_lt {c : UInt8} (h : isdig c = true) : c.toNat - 48 < 10 := by
  simp only [isdig, Bool.and_eq_true, decide_eq_true_eq] at h; omega
/-- A list seen from its end. -/
theorem snoc_cases {α : Type} (l : List α) : l = [] ∨ ∃ m a, l = m ++ [a] := by
  cases l with
  | nil => exact .inl rfl
  | cons a l => exact .inr ⟨(a :: l).dropLast, (a :: l).getLast (by simp), (List.dropLast_concat_getLast (by simp)).symm⟩
theorem dec_val : ∀ (k : Nat) (l : Bytes), l.length = k → tidyNum l = true → decB (valB l) = l := by
  intro k
  induction k with
  | zero =>
    intro l hl ht
    have : l = [] := List.eq_nil_of_length_eq_zero hl
    subst this; simp [tidyNum] at ht
  | succ k ih =>
    intro l hl ht
    rcases snoc_cases l with rfl | ⟨m, c, rfl⟩
    · simp at hl
    · have ht' := ht
      simp only [tidyNum, Bool.and_eq_true, List.all_append, List.all_cons, List.all_nil, Bool.and_true, Bool.or_eq_true, decide_eq_true_eq, bne_iff_ne, List.length_append, List.length_cons, List.length_nil] at ht'
      obtain ⟨⟨_, hm, hc⟩, hz⟩ := ht'
      rw [valB_snoc]
      have hlt := isdig_lt hc
      cases m with
      | nil =>
        have : valB [] = 0 := rfl
        rw [this]
        unfold decB
        rw [if_pos (by omega)]
        simp only [Nat.mul_zero, Nat.zero_add, List.nil_append]
        rw [decd_of hc]
      | cons a m =>
        have hz' : a ≠ 48 := by
          rcases hz with hz | hz
          · simp at hz
          · simpa using hz
        have htm : tidyNum (a :: m) = true := by
          simp only [tidyNum, List.isEmpty_cons, Bool.not_false, Bool.true_and, hm, Bool.or_eq_true, decide_eq_true_eq, bne_iff_ne, List.head?_cons, ne_eq, Option.some.injEq]
          exact .inr hz'
        have h0 := ih (a :: m) (by simp at hl ⊢; omega) htm
        have hpos : 0 < valB (a :: m) := by
          rcases Nat.eq_zero_or_pos (valB (a :: m)) with e | e
          · rw [e] at h0
            unfold decB at h0
            rw [if_pos (by omega)] at h0
            injection h0 with h1 h2
            exact (hz' h1.symm).elim
          · exact e
        conv => lhs; unfold decB
        rw [if_neg (by omega), show (10 * valB (a :: m) + (c.toNat - 48)) / 10 = valB (a :: m) by omega, show (10 * valB (a :: m) + (c.toNat - 48)) % 10 = c.toNat - 48 by omega, h0, decd_of hc]
theorem numB_iff {l : Bytes} {n : Nat} : numB l = some n ↔ l = decB n ∧ n ≤ 2147483647 := by
  unfold numB
  constructor
  · intro h
    split at h
    · rename_i h1
      injection h with h
      subst h
      exact ⟨(dec_val _ l rfl h1.1).symm, h1.2⟩
    · cases h
  · rintro ⟨rfl, h⟩
    rw [valB_dec, if_pos ⟨decB_tidy n, h⟩]
theorem decB_inj {m n : Nat} (h : decB m = decB n) : m = n := by rw [← valB_dec m, h, valB_dec]
theorem isdig_ne {c : UInt8} (h : isdig c = true) : c ≠ 10 ∧ c ≠ 32 := by
  constructor <;> (rintro rfl; revert h; decide)
theorem decB_mem {n : Nat} {c : UInt8} (h : c ∈ decB n) : c ≠ 10 ∧ c ≠ 32 := isdig_ne (List.all_eq_true.1 (decB_all n) c h)
theorem decB_length : ∀ (k n : Nat), n < 10 ^ (k + 1) → (decB n).length ≤ k + 1
  | 0, n, h => by unfold decB; rw [if_pos (by omega)]; simp
  | k + 1, n, h => by
    unfold decB
    split
    · simp
    · have := decB_length k (n / 10) (by rw [Nat.pow_succ] at h; omega)
      simp only [List.length_append, List.length_cons, List.length_nil]; omega

/-! ### Cutting -/
/-- Cut at the first c. -/
def cutAt (c : UInt8) : Bytes → Option (Bytes × Bytes)
  | [] => none
  | x :: l => if x = c then some ([], l) else (cutAt c l).map fun q => (x :: q.1, q.2)
theorem cutAt_some {c : UInt8} : ∀ {l a b : Bytes}, cutAt c l = some (a, b) → l = a ++ c :: b ∧ c ∉ a
  | [], a, b, h => by cases h
  | x :: l, a, b, h => by
    unfold cutAt at h
    split at h
    · rename_i e; cases h; subst e; exact ⟨rfl, by simp⟩
    · rename_i e
      simp only [Option.map_eq_some_iff] at h
      obtain ⟨⟨p, q⟩, h1, h2⟩ := h
      cases h2
      obtain ⟨h3, h4⟩ := cutAt_some h1
      exact ⟨by rw [h3]; rfl, by simp [h4, Ne.symm e]⟩
theorem cutAt_none {c : UInt8} : ∀ {l : Bytes}, cutAt c l = none ↔ c ∉ l
  | [] => by simp [cutAt]
  | x :: l => by
    unfold cutAt
    split
    · rename_i e; simp [e]
    · rename_i e
      rw [Option.map_eq_none_iff, cutAt_none]
      simp [Ne.symm e]
theorem cutAt_append {c : UInt8} : ∀ {a : Bytes} (b : Bytes), c ∉ a → cutAt c (a ++ c :: b) = some (a, b)
  | [], b, _ => by simp [cutAt]
  | x :: a, b, h => by
    simp only [List.mem_cons, not_or] at h
    simp only [List.cons_append]
    unfold cutAt
    rw [if_neg (Ne.symm h.1), cutAt_append b h.2]
    rfl

/-! ### Order -/
/-- Is a ahead of b? -/
def less : Bytes → Bytes → Bool
  | _, [] => false
  | [], _ :: _ => true
  | a :: l, b :: m => if a.toNat < b.toNat then true else if b.toNat < a.toNat then false else less l m
end Go.Proofs.YteejkkidnohcfaaGreatDoor
