/- The library's words on texts (Cut, Itoa, Atoi, IndexByte, Compare) in this proof's words; of no program. -/
import Derived.Test.YteejkkidnohcfaaGreatDoorB2
import Derived.Lib.IndexMore
import Derived.Lib.ItoaNum
import Derived.Lib.AtoiAll
import Derived.Lib.AtoiAllCases
import Derived.Lib.Strings
import Derived.Lib.Bytealg
namespace Go.Proofs.YteejkkidnohcfaaGreatDoor
open Go

theorem index_one (c : UInt8) : ∀ l : Bytes, Lib.index l [c] = match cutAt c l with | some (a, _) => (a.length : Int) | none => -1
  | [] => rfl
  | x :: l => by
    have ih := index_one c l
    unfold Lib.index cutAt
    by_cases h : x = c
    · subst h; simp
    · have hp : [c].isPrefixOf (x :: l) = false := by simp [List.isPrefixOf, beq_eq_false_iff_ne, Ne.symm h]
      rw [if_neg (by rw [hp]; simp), if_neg h, ih]
      cases hc : cutAt c l with
      | none => simp
      | some q =>
        obtain ⟨a, b⟩ := q
        simp only [Option.map_some, List.length_cons]
        rw [if_neg (by rw [beq_iff_eq]; omega), Int.natCast_add]
        rfl
theorem cut_lib_some {c : UInt8} {l a b : Bytes} (h : cutAt c l = some (a, b)) : Lib.cut l [c] = (a, b, true) := by
  have hi := index_one c l
  rw [h] at hi
  simp only [] at hi
  unfold Lib.cut
  rw [hi, if_pos (by omega)]
  obtain ⟨h1, _⟩ := cutAt_some h
  subst h1
  have : (a.length : Int).toNat = a.length := by omega
  rw [this, List.take_left, ← List.drop_drop, List.drop_left]
  rfl
theorem cut_lib_none {c : UInt8} {l : Bytes} (h : cutAt c l = none) : Lib.cut l [c] = (l, [], false) := by
  have hi := index_one c l
  rw [h] at hi
  simp only [] at hi
  unfold Lib.cut
  rw [hi, if_neg (by omega)]
theorem contains_lib (c : UInt8) (l : Bytes) : Lib.contains l [c] = decide (c ∈ l) := by
  unfold Lib.contains
  rw [index_one]
  cases h : cutAt c l with
  | none =>
    have := cutAt_none.1 h
    simp [this]
  | some q =>
    obtain ⟨a, b⟩ := q
    obtain ⟨h1, _⟩ := cutAt_some h
    have : c ∈ l := by rw [h1]; simp
    simp [this]

theorem dec_lib (n : Nat) : Lib.decDigits n = decB n := by
  induction n using Nat.strongRecOn with
  | _ n ih =>
    rw [Lib.decDigits, decB]
    by_cases h : n < 10
    · rw [dif_pos h, if_pos h]; rfl
    · rw [dif_neg h, if_neg h, ih _ (by omega)]; rfl
theorem itoa_lib (n : Nat) : Lib.itoa (n : Int) = decB n := by
  unfold Lib.itoa
  rw [if_neg (by omega), ← dec_lib]
  rfl
theorem itoa_lib' {v : Int} (h : 0 ≤ v) : Lib.itoa v = decB v.toNat := by
  obtain ⟨n, rfl⟩ := Int.eq_ofNat_of_zero_le h
  rw [itoa_lib]; rfl

theorem fold_ge : ∀ (l : Bytes) (a : Nat), a ≤ l.foldl (fun a c => 10 * a + (c.toNat - 48)) a
  | [], a => Nat.le_refl _
  | c :: l, a => by
    have := fold_ge l (10 * a + (c.toNat - 48))
    simp only [List.foldl_cons]
    omega
theorem parse_fold : ∀ (l : Bytes) (a : Nat), l.all isdig = true → l.foldl (fun a c => 10 * a + (c.toNat - 48)) a < 18446744073709551616 → Lib.parseUint10 a l = .ok (l.foldl (fun a c => 10 * a + (c.toNat - 48)) a)
  | [], a, _, _ => rfl
  | c :: l, a, h, hb => by
    simp only [List.all_cons, Bool.and_eq_true] at h
    have hc := h.1
    simp only [isdig, Bool.and_eq_true, decide_eq_true_eq] at hc
    simp only [List.foldl_cons] at hb ⊢
    have hge := fold_ge l (10 * a + (c.toNat - 48))
    have e : a * 10 + (c.toNat - 48) = 10 * a + (c.toNat - 48) := by omega
    unfold Lib.parseUint10
    rw [if_pos hc, if_neg (by omega), if_neg (by omega), e]
    exact parse_fold l _ h.2 hb
theorem atoi_dec {n : Nat} (h : n ≤ 2147483647) : Lib.atoiAll (decB n) = .ok (n : Int) := by
  cases e : decB n with
  | nil => exact (decB_ne n e).elim
  | cons c r =>
    have hall := decB_all n
    rw [e] at hall
    have hc : isdig c = true := by simp only [List.all_cons, Bool.and_eq_true] at hall; exact hall.1
    simp only [isdig, Bool.and_eq_true, decide_eq_true_eq] at hc
    rw [Lib.atoiAll_plain c r (by omega) (by omega)]
    have hv : (c :: r).foldl (fun a c => 10 * a + (c.toNat - 48)) 0 = n := by rw [← e]; exact valB_dec n
    have hp : Lib.parseMag (c :: r) = .ok n := by
      unfold Lib.parseMag
      rw [if_neg (by simp), parse_fold _ 0 hall (by rw [hv]; omega), hv]
    rw [hp]
    simp only [Lib.signless]
    rw [if_neg (by omega)]
/-- What the program's 'number' says. -/
def numLib (w : Bytes) : Int × Bool :=
  match Lib.atoiAll w with
  | .ok v => if v < 0 ∨ 2147483647 < v ∨ Lib.itoa v ≠ w then (0, false) else (v, true)
  | _ => (0, false)
theorem num_lib (w : Bytes) : numLib w = match numB w with | some n => ((n : Int), true) | none => (0, false) := by
  cases h : numB w with
  | some n =>
    obtain ⟨rfl, hn⟩ := numB_iff.1 h
    unfold numLib
    rw [atoi_dec hn]
    simp only []
    rw [if_neg]
    rw [itoa_lib]
    rintro (h1 | h1 | h1)
    · omega
    · omega
    · exact h1 rfl
  | none =>
    unfold numLib
    cases ha : Lib.atoiAll w with
    | ok v =>
      simp only []
      by_cases hc : v < 0 ∨ 2147483647 < v ∨ Lib.itoa v ≠ w
      · rw [if_pos hc]
      · exfalso
        have h0 : 0 ≤ v := by omega
        have h1 : v ≤ 2147483647 := by omega
        have h2 : Lib.itoa v = w := Classical.byContradiction fun e => hc (.inr (.inr e))
        rw [itoa_lib' h0] at h2
        have : numB w = some v.toNat := numB_iff.2 ⟨h2.symm, by omega⟩
        rw [this] at h; cases h
    | range => rfl
    | _ => rfl

/-- Is the answer 'no numeral'? -/
def isSyn : Lib.NumEnd Int → Bool
  | .ok _ => false
  | .range => false
  | _ => true

/-- The digits. -/
def digitsB : Bytes := [48, 49, 50, 51, 52, 53, 54, 55, 56, 57, 97, 98, 99, 100, 101, 102]
theorem hexd_get (n : Nat) (h : n < 16) : digitsB[n]? = some (hexd n) := by
  have : ∀ m, m < 16 → digitsB[m]? = some (hexd m) := by decide
  exact this n h
theorem indexByte_digits (c : UInt8) : Lib.indexByte digitsB c = match undig c with | some n => (n : Int) | none => -1 := by
  have : ∀ m : Fin 256, Lib.indexByte digitsB (UInt8.ofNat m.val) = match undig (UInt8.ofNat m.val) with | some n => (n : Int) | none => -1 := by decide +kernel
  have h := this ⟨c.toNat, c.toNat_lt⟩
  simpa using h

theorem compare_less : ∀ a b : Bytes, (0 ≤ Lib.compareBytes a b) ↔ Op.bytesLess a b = false
  | [], [] => by simp [Lib.compareBytes, Op.bytesLess]
  | [], _ :: _ => by simp [Lib.compareBytes, Op.bytesLess]
  | _ :: _, [] => by simp [Lib.compareBytes, Op.bytesLess]
  | a :: l, b :: m => by
    have ih := compare_less l m
    unfold Lib.compareBytes Op.bytesLess
    by_cases h1 : a < b
    · simp [h1]
    · by_cases h2 : b < a
      · have : a ≠ b := by rintro rfl; exact h1 h2
        simp [h1, h2, this]
      · have : a = b := UInt8.le_antisymm (UInt8.not_lt.1 h2) (UInt8.not_lt.1 h1)
        subst this
        simp [ih]
theorem prefix_lib (p l : Bytes) : Lib.hasPrefix l p = decide (l.take p.length = p) := by
  unfold Lib.hasPrefix
  rw [Bool.eq_iff_iff, List.isPrefixOf_iff_prefix, decide_eq_true_eq, List.prefix_iff_eq_take]
  exact eq_comm
theorem trim_lib {p l : Bytes} (h : l.take p.length = p) : Lib.trimPrefix l p = l.drop p.length := by
  unfold Lib.trimPrefix
  rw [prefix_lib, if_pos (by simpa using h)]
theorem trim_lib_no {p l : Bytes} (h : ¬ l.take p.length = p) : Lib.trimPrefix l p = l := by
  unfold Lib.trimPrefix
  rw [prefix_lib, if_neg (by simpa using h)]
end Go.Proofs.YteejkkidnohcfaaGreatDoor
