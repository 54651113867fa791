/- Plain words: what Unhex has laid behind some digits; of no program. -/
import Derived.Test.YteejkkidnohcfaaGreatDoorB3
namespace Go.Proofs.YteejkkidnohcfaaGreatDoor
open Go

/-- The j-th byte behind these digits. -/
def fillAt (ds : List Nat) (j : Nat) : UInt8 :=
  match ds[2 * j]?, ds[2 * j + 1]? with
  | some x, some y => (16 * x + y).toUInt8
  | some x, none => x.toUInt8
  | none, _ => 0
def fill (ds : List Nat) (n : Nat) : Bytes := (List.range n).map (fillAt ds)
theorem fill_length (ds : List Nat) (n : Nat) : (fill ds n).length = n := by simp [fill]
theorem fill_nil (n : Nat) : fill [] n = List.replicate n 0 := by
  apply List.ext_getElem?
  intro i
  unfold fill
  rw [List.getElem?_map]
  by_cases h : i < n
  · rw [List.getElem?_range h, List.getElem?_replicate, if_pos h]; rfl
  · rw [List.getElem?_eq_none (by simp; omega), List.getElem?_replicate, if_neg h]; rfl
theorem fill_get {ds : List Nat} {n j : Nat} (h : j < n) : (fill ds n)[j]? = some (fillAt ds j) := by
  unfold fill; rw [List.getElem?_map, List.getElem?_range h]; rfl
theorem fill_snoc (ds : List Nat) (d n : Nat) : fill (ds ++ [d]) n = (fill ds n).set (ds.length / 2) (fillAt (ds ++ [d]) (ds.length / 2)) := by
  apply List.ext_getElem?
  intro j
  rw [List.getElem?_set]
  by_cases hj : j < n
  · rw [fill_get hj, fill_get hj, fill_length]
    by_cases e : ds.length / 2 = j
    · rw [if_pos e, if_pos (by omega), e]
    · rw [if_neg e]
      congr 1
      unfold fillAt
      by_cases h : 2 * j + 1 < ds.length
      · rw [List.getElem?_append_left (by omega), List.getElem?_append_left h]
      · rw [List.getElem?_eq_none (by simp; omega), List.getElem?_eq_none (l := ds) (by omega)]
  · have h1 : (fill (ds ++ [d]) n)[j]? = none := List.getElem?_eq_none (by rw [fill_length]; omega)
    have h2 : (fill ds n)[j]? = none := List.getElem?_eq_none (by rw [fill_length]; omega)
    rw [h1, h2, fill_length]
    split
    · rw [if_neg (by omega)]
    · rfl
/-- The byte ahead of the new digit, and behind it. -/
theorem fillAt_old {ds : List Nat} (hd : ∀ d ∈ ds, d < 16) : (ds.length % 2 = 0 → fillAt ds (ds.length / 2) = 0) ∧ (ds.length % 2 = 1 → ∃ x, x < 16 ∧ ds[ds.length - 1]? = some x ∧ fillAt ds (ds.length / 2) = x.toUInt8) := by
  constructor
  · intro h
    unfold fillAt
    rw [List.getElem?_eq_none (by omega)]
  · intro h
    have e : 2 * (ds.length / 2) = ds.length - 1 := by omega
    have hlt : ds.length - 1 < ds.length := by omega
    refine ⟨ds[ds.length - 1], hd _ (List.getElem_mem hlt), List.getElem?_eq_getElem hlt, ?_⟩
    unfold fillAt
    rw [e, List.getElem?_eq_getElem hlt, List.getElem?_eq_none (by omega)]
theorem fillAt_new {ds : List Nat} (hd : ∀ d ∈ ds, d < 16) {d : Nat} (hd' : d < 16) : (fillAt (ds ++ [d]) (ds.length / 2)).toNat = (fillAt ds (ds.length / 2)).toNat * 16 % 256 + d := by
  obtain ⟨h0, h1⟩ := fillAt_old hd
  rcases Nat.mod_two_eq_zero_or_one ds.length with h | h
  · rw [h0 h]
    have e : 2 * (ds.length / 2) = ds.length := by omega
    unfold fillAt
    rw [e, List.getElem?_append_right (Nat.le_refl _), List.getElem?_eq_none (l := ds ++ [d]) (i := ds.length + 1) (by simp)]
    simp only [Nat.sub_self, List.getElem?_cons_zero]
    rw [Nat.toUInt8_eq, UInt8.toNat_ofNat']
    simp; omega
  · obtain ⟨x, hx, hg, hf⟩ := h1 h
    rw [hf]
    have e : 2 * (ds.length / 2) = ds.length - 1 := by omega
    unfold fillAt
    rw [e, List.getElem?_append_left (by omega), hg, show ds.length - 1 + 1 = ds.length by omega, List.getElem?_append_right (Nat.le_refl _)]
    simp only [Nat.sub_self, List.getElem?_cons_zero]
    rw [Nat.toUInt8_eq, UInt8.toNat_ofNat', Nat.toUInt8_eq, UInt8.toNat_ofNat']
    omega
theorem fillAt_lt {ds : List Nat} (hd : ∀ d ∈ ds, d < 16) : (fillAt ds (ds.length / 2)).toNat < 16 := by
  obtain ⟨h0, h1⟩ := fillAt_old hd
  rcases Nat.mod_two_eq_zero_or_one ds.length with h | h
  · rw [h0 h]; decide
  · obtain ⟨x, hx, hg, hf⟩ := h1 h
    rw [hf, Nat.toUInt8_eq, UInt8.toNat_ofNat']; omega

/-- The digits of the first bytes of a text. -/
def Digs (t : Bytes) (ds : List Nat) : Prop := ∀ (i : Nat) d, ds[i]? = some d → ∃ c, t[i]? = some c ∧ undig c = some d
theorem Digs.nil (t : Bytes) : Digs t [] := fun i d h => by simp at h
theorem Digs.lt {t : Bytes} {ds : List Nat} (h : Digs t ds) : ∀ d ∈ ds, d < 16 := fun d hd => by
  obtain ⟨i, hi, e⟩ := List.getElem_of_mem hd
  obtain ⟨c, _, hu⟩ := h i d (by rw [List.getElem?_eq_getElem hi, e])
  exact undig_lt hu
theorem Digs.snoc {t : Bytes} {ds : List Nat} (h : Digs t ds) {c : UInt8} {d : Nat} (hc : t[ds.length]? = some c) (hd : undig c = some d) : Digs t (ds ++ [d]) := fun i x hx => by
  rcases Nat.lt_or_ge i ds.length with hi | hi
  · rw [List.getElem?_append_left hi] at hx; exact h i x hx
  · rw [List.getElem?_append_right hi] at hx
    have hi0 : i - ds.length = 0 := by
      have := (List.getElem?_eq_some_iff.1 hx).1
      simp at this; omega
    rw [hi0] at hx
    simp at hx
    subst hx
    exact ⟨c, by rw [show i = ds.length by omega]; exact hc, hd⟩
theorem hexs_get : ∀ (l : Bytes) (j : Nat), (hexs l)[2 * j]? = (l[j]?).map (fun b => hexd (b.toNat / 16)) ∧ (hexs l)[2 * j + 1]? = (l[j]?).map (fun b => hexd (b.toNat % 16))
  | [], j => by simp [hexs]
  | b :: l, 0 => by rw [hexs_cons]; simp
  | b :: l, j + 1 => by
    have := hexs_get l j
    rw [hexs_cons, show 2 * (j + 1) = 2 * j + 1 + 1 by omega]
    simpa using this
theorem digs_all {t : Bytes} {ds : List Nat} {n : Nat} (h : Digs t ds) (hl : ds.length = t.length) (hn : t.length = 2 * n) : unpairs t = some (fill ds n) := by
  have e : hexs (fill ds n) = t := by
    apply List.ext_getElem?
    intro i
    have hh := hexs_get (fill ds n) (i / 2)
    by_cases hi : i < t.length
    · have hj : i / 2 < n := by omega
      rw [fill_get hj] at hh
      have g1 : 2 * (i / 2) < ds.length := by omega
      have g2 : 2 * (i / 2) + 1 < ds.length := by omega
      obtain ⟨c1, t1, u1⟩ := h (2 * (i / 2)) _ (List.getElem?_eq_getElem g1)
      obtain ⟨c2, t2, u2⟩ := h (2 * (i / 2) + 1) _ (List.getElem?_eq_getElem g2)
      have hf : (fillAt ds (i / 2)).toNat = 16 * ds[2 * (i / 2)] + ds[2 * (i / 2) + 1] := by
        have l1 := undig_lt u1
        have l2 := undig_lt u2
        unfold fillAt
        rw [List.getElem?_eq_getElem g1, List.getElem?_eq_getElem g2]
        simp only []
        rw [Nat.toUInt8_eq, UInt8.toNat_ofNat']; omega
      have l2 := undig_lt u2
      rcases Nat.mod_two_eq_zero_or_one i with hm | hm
      · have e1 : 2 * (i / 2) = i := by omega
        have hh1 := hh.1
        rw [Option.map_some, hf, show (16 * ds[2 * (i / 2)] + ds[2 * (i / 2) + 1]) / 16 = ds[2 * (i / 2)] by omega, hexd_undig u1] at hh1
        rw [e1] at hh1 t1
        rw [hh1, t1]
      · have e1 : 2 * (i / 2) + 1 = i := by omega
        have hh1 := hh.2
        rw [Option.map_some, hf, show (16 * ds[2 * (i / 2)] + ds[2 * (i / 2) + 1]) % 16 = ds[2 * (i / 2) + 1] by omega, hexd_undig u2] at hh1
        rw [e1] at hh1 t2
        rw [hh1, t2]
    · rw [List.getElem?_eq_none (by rw [hexs_length, fill_length]; omega), List.getElem?_eq_none (by omega)]
  rw [← e]
  exact unpairs_hexs _
theorem unpairs_bad {t : Bytes} {i : Nat} {c : UInt8} (hc : t[i]? = some c) (hu : undig c = none) : unpairs t = none := by
  cases e : unpairs t with
  | none => rfl
  | some l =>
    have h1 := hexs_unpairs t l e
    have hh := hexs_get l (i / 2)
    have hm : i = 2 * (i / 2) ∨ i = 2 * (i / 2) + 1 := by omega
    rcases hm with hm | hm
    · have := hh.1
      rw [h1, ← hm, hc] at this
      cases hl : l[i / 2]? with
      | none => rw [hl] at this; cases this
      | some b =>
        rw [hl] at this
        simp only [Option.map_some, Option.some.injEq] at this
        rw [this, undig_hexd _ (by have := b.toNat_lt; omega)] at hu
        cases hu
    · have := hh.2
      rw [h1, ← hm, hc] at this
      cases hl : l[i / 2]? with
      | none => rw [hl] at this; cases this
      | some b =>
        rw [hl] at this
        simp only [Option.map_some, Option.some.injEq] at this
        rw [this, undig_hexd _ (by omega)] at hu
        cases hu
theorem unpairs_odd {t : Bytes} (h : t.length % 2 = 1) : unpairs t = none := by
  cases e : unpairs t with
  | none => rfl
  | some l =>
    have h1 := congrArg List.length (hexs_unpairs t l e)
    rw [hexs_length] at h1
    omega
end Go.Proofs.YteejkkidnohcfaaGreatDoor
