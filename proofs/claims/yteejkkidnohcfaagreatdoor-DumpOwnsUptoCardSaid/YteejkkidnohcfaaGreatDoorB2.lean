/- Plain words on texts: the text of pairs, and what a text says; there and back; nothing can be cut off; of no program. -/
import Derived.Test.YteejkkidnohcfaaGreatDoorB1
namespace Go.Proofs.YteejkkidnohcfaaGreatDoor
open Go

abbrev PairB := Bytes × Bytes

/-- May a pair stand behind a key? -/
def mayB (k v : Bytes) (last : Option Bytes) : Int :=
  if k.length < 1 ∨ 255 < k.length ∨ 262144 < v.length then 41
  else match last with
    | some m => if Op.bytesLess m k = true then 0 else 30
    | none => 0
def lineOf (p : PairB) : Bytes := hexB p.1 ++ 32 :: (hexB p.2 ++ [10])
def linesOf (l : List PairB) : Bytes := l.flatMap lineOf
def word : Bytes := [99, 111, 112, 112, 105, 99, 101, 32]
def headOf (n : Nat) : Bytes := word ++ (decB n ++ [10])
/-- The first fault of pairs. -/
def faultOf : List PairB → Option Bytes → Int
  | [], _ => 0
  | p :: l, last => if mayB p.1 p.2 last = 0 then faultOf l (some p.1) else mayB p.1 p.2 last
/-- Text. -/
def textB (l : List PairB) : Bytes × Int := if faultOf l none = 0 then (headOf l.length ++ linesOf l, 0) else ([], faultOf l none)

/-- What a line says. -/
def lineB (line : Bytes) (last : Option Bytes) : PairB × Int :=
  match cutAt 32 line with
  | none => (([], []), 200)
  | some (k, v) =>
    if k = [] ∨ v = [] ∨ 32 ∈ v then (([], []), 200)
    else match unhexB k with
      | none => (([], []), 201)
      | some a =>
        if a.length < 1 ∨ 255 < a.length then (([], []), 41)
        else match unhexB v with
          | none => (([], []), 201)
          | some b => ((a, b), mayB a b last)
/-- The lines behind the first: n more. -/
def goB : Nat → Nat → Bytes → Option Bytes → List PairB → List PairB × Nat × Int
  | 0, i, rest, _, acc => if rest = [] then (acc, 0, 0) else ([], i + 2, 200)
  | n + 1, i, rest, last, acc =>
    match cutAt 10 rest with
    | none => ([], i + 2, 200)
    | some (line, rest') =>
      if (lineB line last).2 = 0 then goB n (i + 1) rest' (some (lineB line last).1.1) (acc ++ [(lineB line last).1])
      else ([], i + 2, (lineB line last).2)
def headN (line : Bytes) : Option Nat := if line.take 8 = word then numB (line.drop 8) else none
/-- Parse. -/
def parseB (t : Bytes) : List PairB × Nat × Int :=
  match cutAt 10 t with
  | none => ([], 1, 200)
  | some (line, rest) =>
    match headN line with
    | none => ([], 1, 200)
    | some n => goB n 0 rest none []

theorem mayB_cases (k v : Bytes) (last : Option Bytes) : mayB k v last = 0 ∨ mayB k v last = 41 ∨ mayB k v last = 30 := by
  unfold mayB
  split
  · exact .inr (.inl rfl)
  · split
    · split
      · exact .inl rfl
      · exact .inr (.inr rfl)
    · exact .inl rfl
theorem lineB_cases (line : Bytes) (last : Option Bytes) : (lineB line last).2 = 0 ∨ (lineB line last).2 = 200 ∨ (lineB line last).2 = 201 ∨ (lineB line last).2 = 41 ∨ (lineB line last).2 = 30 := by
  unfold lineB
  split
  · exact .inr (.inl rfl)
  · split
    · exact .inr (.inl rfl)
    · split
      · exact .inr (.inr (.inl rfl))
      · split
        · exact .inr (.inr (.inr (.inl rfl)))
        · split
          · exact .inr (.inr (.inl rfl))
          · rename_i a _ _ _ b _
            rcases mayB_cases a b last with h | h | h
            · exact .inl h
            · exact .inr (.inr (.inr (.inl h)))
            · exact .inr (.inr (.inr (.inr h)))

theorem lineB_lineOf (p : PairB) (last : Option Bytes) (h : mayB p.1 p.2 last = 0) : lineB (hexB p.1 ++ 32 :: hexB p.2) last = (p, 0) := by
  have h1 : (32 : UInt8) ∉ hexB p.1 := fun hm => (hexB_mem hm).2 rfl
  have h2 : (32 : UInt8) ∉ hexB p.2 := fun hm => (hexB_mem hm).2 rfl
  unfold lineB
  rw [cutAt_append _ h1]
  simp only []
  have h3 : ¬ (hexB p.1 = [] ∨ hexB p.2 = [] ∨ (32 : UInt8) ∈ hexB p.2) := fun e => e.elim (hexB_ne _) (fun e => e.elim (hexB_ne _) h2)
  rw [if_neg h3, unhex_hex]
  simp only []
  have hk : ¬ (p.1.length < 1 ∨ 255 < p.1.length) := by
    intro hk
    unfold mayB at h
    rw [if_pos (hk.elim .inl (fun hk => .inr (.inl hk)))] at h
    cases h
  rw [if_neg hk, unhex_hex]
  simp only [h]
theorem lineOf_of {line : Bytes} {last : Option Bytes} {p : PairB} (h : lineB line last = (p, 0)) : lineOf p = line ++ [10] ∧ mayB p.1 p.2 last = 0 := by
  unfold lineB at h
  split at h
  · cases h
  · rename_i k v hc
    split at h
    · cases h
    · split at h
      · cases h
      · rename_i a ha
        split at h
        · cases h
        · split at h
          · cases h
          · rename_i b hb
            injection h with h1 h2
            subst h1
            obtain ⟨h3, h4⟩ := cutAt_some hc
            refine ⟨?_, h2⟩
            unfold lineOf
            simp only []
            rw [hex_unhex ha, hex_unhex hb, h3]
            simp
theorem lineOf_cut (p : PairB) (rest : Bytes) : cutAt 10 (lineOf p ++ rest) = some (hexB p.1 ++ 32 :: hexB p.2, rest) := by
  have e : lineOf p ++ rest = (hexB p.1 ++ 32 :: hexB p.2) ++ 10 :: rest := by simp [lineOf]
  rw [e, cutAt_append]
  simp only [List.mem_append, List.mem_cons, not_or]
  exact ⟨fun hm => (hexB_mem hm).1 rfl, by decide, fun hm => (hexB_mem hm).1 rfl⟩
theorem linesOf_cons (p : PairB) (l : List PairB) : linesOf (p :: l) = lineOf p ++ linesOf l := rfl
theorem linesOf_snoc (l : List PairB) (p : PairB) : linesOf (l ++ [p]) = linesOf l ++ lineOf p := by simp [linesOf]

theorem goB_lines : ∀ (l : List PairB) (i : Nat) (last : Option Bytes) (acc : List PairB), faultOf l last = 0 → goB l.length i (linesOf l) last acc = (acc ++ l, 0, 0)
  | [], i, last, acc, _ => by simp [goB, linesOf]
  | p :: l, i, last, acc, h => by
    have hm : mayB p.1 p.2 last = 0 := by
      unfold faultOf at h
      split at h
      · assumption
      · exact h
    have hf : faultOf l (some p.1) = 0 := by
      unfold faultOf at h
      rw [if_pos hm] at h
      exact h
    rw [List.length_cons, linesOf_cons]
    unfold goB
    rw [lineOf_cut]
    simp only [lineB_lineOf p last hm, if_pos]
    rw [goB_lines l (i + 1) (some p.1) (acc ++ [p]) hf]
    simp
theorem goB_ok : ∀ (n i : Nat) (rest : Bytes) (last : Option Bytes) (acc l : List PairB) (c : Nat), goB n i rest last acc = (l, c, 0) → ∃ m, l = acc ++ m ∧ m.length = n ∧ linesOf m = rest ∧ faultOf m last = 0 ∧ c = 0
  | 0, i, rest, last, acc, l, c, h => by
    unfold goB at h
    split at h
    · rename_i e; cases h; exact ⟨[], by simp, rfl, e.symm, rfl, rfl⟩
    · cases h
  | n + 1, i, rest, last, acc, l, c, h => by
    unfold goB at h
    split at h
    · cases h
    · rename_i line rest' hc
      split at h
      · rename_i h0
        obtain ⟨m, h1, h2, h3, h4, h5⟩ := goB_ok n (i + 1) rest' _ _ l c h
        have hp : lineB line last = ((lineB line last).1, 0) := by rw [← h0]
        obtain ⟨h6, h7⟩ := lineOf_of hp
        refine ⟨(lineB line last).1 :: m, by rw [h1]; simp, by simp [h2], ?_, ?_, h5⟩
        · rw [linesOf_cons, h6, h3, (cutAt_some hc).1]; simp
        · unfold faultOf; rw [if_pos h7]; exact h4
      · rename_i h0
        have : (lineB line last).2 = 0 := by injection h with _ h; injection h with _ h
        exact (h0 this).elim
theorem goB_bad : ∀ (n i : Nat) (rest : Bytes) (last : Option Bytes) (acc : List PairB), (goB n i rest last acc).2.2 ≠ 0 → (goB n i rest last acc).1 = [] ∧ 2 ≤ (goB n i rest last acc).2.1
  | 0, i, rest, last, acc, h => by
    unfold goB at h ⊢
    split
    · rename_i e; rw [if_pos e] at h; exact (h rfl).elim
    · exact ⟨rfl, by simp⟩
  | n + 1, i, rest, last, acc, h => by
    unfold goB at h ⊢
    cases hc : cutAt 10 rest with
    | none => exact ⟨rfl, by simp⟩
    | some q =>
      rw [hc] at h
      simp only [] at h ⊢
      split
      · rename_i h0
        rw [if_pos h0] at h
        exact goB_bad n (i + 1) _ _ _ h
      · exact ⟨rfl, by simp⟩

theorem head_cut (n : Nat) (rest : Bytes) : cutAt 10 (headOf n ++ rest) = some (word ++ decB n, rest) := by
  have e : headOf n ++ rest = (word ++ decB n) ++ 10 :: rest := by simp [headOf]
  rw [e, cutAt_append]
  simp only [List.mem_append, not_or]
  exact ⟨by decide, fun hm => (decB_mem hm).1 rfl⟩
theorem headN_word {n : Nat} (h : n ≤ 2147483647) : headN (word ++ decB n) = some n := by
  unfold headN
  have e : (word ++ decB n).take 8 = word := List.take_left' rfl
  have e2 : (word ++ decB n).drop 8 = decB n := List.drop_left' rfl
  rw [if_pos e, e2]
  exact numB_iff.2 ⟨rfl, h⟩
theorem headN_some {line : Bytes} {n : Nat} (h : headN line = some n) : line = word ++ decB n ∧ n ≤ 2147483647 := by
  unfold headN at h
  split at h
  · rename_i e
    obtain ⟨h1, h2⟩ := numB_iff.1 h
    exact ⟨by rw [← e, ← h1, List.take_append_drop], h2⟩
  · cases h

/-- There. -/
theorem parse_text {l : List PairB} {t : Bytes} (h : textB l = (t, 0)) (hl : l.length ≤ 2147483647) : parseB t = (l, 0, 0) := by
  unfold textB at h
  split at h
  · rename_i h0
    injection h with h1
    subst h1
    unfold parseB
    rw [head_cut]
    simp only [headN_word hl, goB_lines l 0 none [] h0, List.nil_append]
  · rename_i h0
    injection h with _ h
    exact (h0 h).elim
/-- And back. -/
theorem text_parse {t : Bytes} {l : List PairB} {c : Nat} (h : parseB t = (l, c, 0)) : textB l = (t, 0) ∧ c = 0 ∧ l.length ≤ 2147483647 := by
  unfold parseB at h
  split at h
  · cases h
  · rename_i line rest hc
    split at h
    · cases h
    · rename_i n hn
      obtain ⟨m, h1, h2, h3, h4, h5⟩ := goB_ok n 0 rest none [] l c h
      obtain ⟨h6, h7⟩ := headN_some hn
      rw [List.nil_append] at h1
      subst h1
      refine ⟨?_, h5, by omega⟩
      unfold textB
      rw [if_pos h4, h3, h2, (cutAt_some hc).1, h6]
      simp [headOf]
theorem parse_bad {t : Bytes} (h : (parseB t).2.2 ≠ 0) : (parseB t).1 = [] ∧ 1 ≤ (parseB t).2.1 := by
  unfold parseB at h ⊢
  split
  · exact ⟨rfl, Nat.le_refl _⟩
  · rename_i line rest hc
    rw [hc] at h
    split
    · exact ⟨rfl, Nat.le_refl _⟩
    · rename_i n hn
      simp only [hn] at h
      obtain ⟨a, b⟩ := goB_bad n 0 rest none [] h
      exact ⟨a, by omega⟩
theorem text_inj {l m : List PairB} {t : Bytes} (h1 : textB l = (t, 0)) (h2 : textB m = (t, 0)) (hl : l.length ≤ 2147483647) (hm : m.length ≤ 2147483647) : l = m := by
  have a := parse_text h1 hl
  have b := parse_text h2 hm
  rw [a] at b
  injection b

/-! ### Nothing can be cut off -/
theorem lineOf_count (p : PairB) : (lineOf p).count 10 = 1 := by
  have h1 : (hexB p.1).count 10 = 0 := List.count_eq_zero.2 fun hm => (hexB_mem hm).1 rfl
  have h2 : (hexB p.2).count 10 = 0 := List.count_eq_zero.2 fun hm => (hexB_mem hm).1 rfl
  simp [lineOf, List.count_append, List.count_cons, h1, h2]
theorem linesOf_count (l : List PairB) : (linesOf l).count 10 = l.length := by
  induction l with
  | nil => rfl
  | cons p l ih => rw [linesOf_cons, List.count_append, lineOf_count, ih, List.length_cons]; omega
theorem headOf_count (n : Nat) : (headOf n).count 10 = 1 := by
  have h1 : (decB n).count 10 = 0 := List.count_eq_zero.2 fun hm => (decB_mem hm).1 rfl
  have h2 : word.count 10 = 0 := by decide
  simp [headOf, List.count_append, h1, h2]
theorem linesOf_last (l : List PairB) : linesOf l = [] ∨ ∃ a, linesOf l = a ++ [10] := by
  rcases snoc_cases l with rfl | ⟨m, p, rfl⟩
  · exact .inl rfl
  · exact .inr ⟨linesOf m ++ (hexB p.1 ++ 32 :: hexB p.2), by rw [linesOf_snoc]; simp [lineOf]⟩
theorem text_last {l : List PairB} {t : Bytes} (h : textB l = (t, 0)) : ∃ a, t = a ++ [10] := by
  unfold textB at h
  split at h
  · injection h with h
    subst h
    rcases linesOf_last l with e | ⟨a, e⟩
    · exact ⟨word ++ decB l.length, by rw [e]; simp [headOf]⟩
    · exact ⟨headOf l.length ++ a, by rw [e]; simp⟩
  · rename_i h0
    injection h with _ h
    exact (h0 h).elim
theorem text_ok {l : List PairB} {t : Bytes} (h : textB l = (t, 0)) : t = headOf l.length ++ linesOf l := by
  unfold textB at h
  split at h
  · injection h with h; exact h.symm
  · rename_i h0
    injection h with _ h
    exact (h0 h).elim
theorem text_short {l m : List PairB} {s u : Bytes} (h1 : textB l = (s ++ u, 0)) (h2 : textB m = (s, 0)) : u = [] := by
  have e1 := text_ok h1
  have e2 := text_ok h2
  have c1 : cutAt 10 (s ++ u) = some (word ++ decB l.length, linesOf l) := by rw [e1]; exact head_cut _ _
  have c2 : cutAt 10 (s ++ u) = some (word ++ decB m.length, linesOf m ++ u) := by rw [e2, List.append_assoc]; exact head_cut _ _
  rw [c1] at c2
  injection c2 with c2
  injection c2 with c3 c4
  have hn := decB_inj (List.append_cancel_left c3)
  have hc := congrArg (List.count (10 : UInt8)) c4
  rw [List.count_append, linesOf_count, linesOf_count] at hc
  have hu : u.count 10 = 0 := by omega
  rcases snoc_cases u with e | ⟨v, x, e⟩
  · exact e
  · obtain ⟨a, ha⟩ := text_last h1
    rw [e, ← List.append_assoc] at ha
    have hx : x = 10 := by
      have := congrArg List.getLast? ha
      simpa using this
    rw [e, hx] at hu
    simp [List.count_append] at hu
theorem text_none (l : List PairB) (h : faultOf l none ≠ 0) : textB l = ([], faultOf l none) := by unfold textB; rw [if_neg h]
theorem text_iff (l : List PairB) : (textB l).2 = 0 ↔ faultOf l none = 0 := by
  unfold textB
  split
  · rename_i h; simp [h]
  · rfl
end Go.Proofs.YteejkkidnohcfaaGreatDoor
