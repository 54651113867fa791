/- Lists of pages and of writes in memory: one more, one turned. -/
import Derived.Test.YtckioocahmbhkaaR1
namespace Go.Proofs.Ytckioocahmbhkaa
open Go Go.RowKit Go.Maps Go.MuLone

/-- Two new blocks of which the second may be an old one, with its role. -/
theorem own_two {own : Own} {g ga : Nat} {r ra : Role} (hg : ¬ own.blocks g) (hga : own ga = some ra ∨ ¬ own.blocks ga ∧ ga ≠ g) :
    ∃ own' : Own, own.le own' ∧ own' g = some r ∧ own' ga = some ra ∧ ∀ k, own'.blocks k → own.blocks k ∨ k = g ∨ k = ga := by
  have e1 : own.le (own.upd g r) := Own.le_upd _ hg
  rcases hga with h | ⟨h1, h2⟩
  · exact ⟨own.upd g r, e1, Own.upd_same _ _ _, e1 _ _ h, fun k hk => (Own.blocks_upd hk).imp id Or.inl⟩
  · refine ⟨(own.upd g r).upd ga ra, Own.le_trans e1 (Own.le_upd _ (fun e => ?_)), ?_, Own.upd_same _ _ _, fun k hk => ?_⟩
    · rcases Own.blocks_upd e with e | e
      · exact h1 e
      · exact h2 e
    · unfold Own.upd; rw [if_neg (Ne.symm h2), if_pos rfl]
    · rcases Own.blocks_upd hk with e | e
      · exact (Own.blocks_upd e).imp id Or.inl
      · exact .inr (.inr e)

/-- One page more. -/
theorem LastAt.snoc {w w' : World} {own own' : Own} {L : List (List UInt8)} {g ga cap capg : Nat} {ls : List Value} {p : List UInt8} {S : Nat → Prop}
    (hls : ls.length = L.length) (hlp : ∀ (i : Nat) (p : List UInt8), L[i]? = some p → ∃ v, ls[i]? = some v ∧ Buf w own (.page i) v p)
    (hle : own.le own') (ho1 : own' g = some (.page L.length)) (ho2 : own' ga = some .larr) (hc : Chg S w w') (hs : ∀ x i, own x = some (.page i) → ¬ S x)
    (hp : w'.ownsRow 0 5 1 (.slice (some ⟨g, 0, none⟩) p.length capg) p.length (bVs p))
    (hl : w'.ownsRow 0 27 1 (.slice (some ⟨ga, 0, none⟩) (L.length + 1) cap) (L.length + 1) (ls ++ [.slice (some ⟨g, 0, none⟩) p.length capg])) :
    LastAt w' own' (.slice (some ⟨ga, 0, none⟩) (L.length + 1) cap) (L ++ [p]) := by
  refine ⟨ls ++ [.slice (some ⟨g, 0, none⟩) p.length capg], by simp [hls], ⟨by simpa using hl, fun x hx => by cases hx; exact ho2⟩, fun i p' hi => ?_⟩
  by_cases hlt : i < L.length
  · have hi' : L[i]? = some p' := by simpa [List.getElem?_append, hlt] using hi
    obtain ⟨v, hv, hbuf⟩ := hlp i p' hi'
    exact ⟨v, by rw [List.getElem?_append_left (by omega)]; exact hv, (hbuf.chg hc (fun x e => hs x _ e)).le hle⟩
  · have hi' : i = L.length ∧ p = p' := by
      have := (List.getElem?_eq_some_iff.1 hi).1
      simp at this
      have e : i = L.length := by omega
      subst e
      simpa using hi
    obtain ⟨rfl, rfl⟩ := hi'
    exact ⟨_, by rw [← hls]; simp, g, capg, rfl, ho1, hp⟩

/-- A page is another one, in new memory. -/
theorem LastAt.put {w w' : World} {own own' : Own} {lv : Value} {L : List (List UInt8)} {g capg i : Nat} {ls : List Value} {p : List UInt8} {S : Nat → Prop}
    (hls : ls.length = L.length) (hlo : ∀ x, lv.ownBlock = some x → own x = some .larr) (hlp : ∀ (i : Nat) (p : List UInt8), L[i]? = some p → ∃ v, ls[i]? = some v ∧ Buf w own (.page i) v p)
    (hi : i < L.length) (hle : own.le own') (ho1 : own' g = some (.page i)) (hc : Chg S w w') (hs : ∀ x i, own x = some (.page i) → ¬ S x)
    (hp : w'.ownsRow 0 5 1 (.slice (some ⟨g, 0, none⟩) p.length capg) p.length (bVs p))
    (hl : w'.ownsRow 0 27 1 lv L.length (ls.set i (.slice (some ⟨g, 0, none⟩) p.length capg))) :
    LastAt w' own' lv (L.set i p) := by
  refine ⟨ls.set i (.slice (some ⟨g, 0, none⟩) p.length capg), by simp [hls], ⟨by simpa using hl, fun x hx => hle _ _ (hlo x hx)⟩, fun j q hj => ?_⟩
  by_cases e : i = j
  · subst e
    rw [List.getElem?_set_self hi] at hj
    cases hj
    exact ⟨_, List.getElem?_set_self (by omega), g, capg, rfl, ho1, hp⟩
  · rw [List.getElem?_set_ne e] at hj
    obtain ⟨v, hv, hb⟩ := hlp j q hj
    exact ⟨v, by rw [List.getElem?_set_ne e]; exact hv, (hb.chg hc (fun x e' => hs x _ e')).le hle⟩

/-- One write more. -/
theorem PendAt.snoc {w w' : World} {own own' : Own} {Q : List (Nat × List UInt8)} {g ga cap capg no : Nat} {vs : List Value} {p : List UInt8} {S : Nat → Prop}
    (hvs : vs.length = Q.length) (hvp : ∀ (i : Nat) (q : Nat × List UInt8), Q[i]? = some q → ∃ v, vs[i]? = some v ∧ Buf w own (.pend i) v q.2)
    (hle : own.le own') (ho1 : own' g = some (.pend Q.length)) (ho2 : own' ga = some .parr) (hc : Chg S w w') (hs : ∀ x i, own x = some (.pend i) → ¬ S x)
    (hp : w'.ownsRow 0 5 1 (.slice (some ⟨g, 0, none⟩) p.length capg) p.length (bVs p))
    (hl : w'.ownsRow 0 79 2 (.slice (some ⟨ga, 0, none⟩) (Q.length + 1) cap) (Q.length + 1) (pcells Q vs ++ [.int .i64 no, .slice (some ⟨g, 0, none⟩) p.length capg])) :
    PendAt w' own' (.slice (some ⟨ga, 0, none⟩) (Q.length + 1) cap) (Q ++ [(no, p)]) := by
  refine ⟨vs ++ [.slice (some ⟨g, 0, none⟩) p.length capg], by simp [hvs], ⟨?_, fun x hx => by cases hx; exact ho2⟩, fun i q hi => ?_⟩
  · rw [pcells_snoc Q vs hvs, List.length_append]; exact hl
  · by_cases hlt : i < Q.length
    · have hi' : Q[i]? = some q := by simpa [List.getElem?_append, hlt] using hi
      obtain ⟨v, hv, hbuf⟩ := hvp i q hi'
      exact ⟨v, by rw [List.getElem?_append_left (by omega)]; exact hv, (hbuf.chg hc (fun x e => hs x _ e)).le hle⟩
    · have hi' : i = Q.length ∧ (no, p) = q := by
        have := (List.getElem?_eq_some_iff.1 hi).1
        simp at this
        have e : i = Q.length := by omega
        subst e
        simpa using hi
      obtain ⟨rfl, rfl⟩ := hi'
      exact ⟨_, by rw [← hvs]; simp, g, capg, rfl, ho1, hp⟩

end Go.Proofs.Ytckioocahmbhkaa
