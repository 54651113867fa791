/- Words on a function's text: its blocks; the law's own book of pages. -/
import Derived.Test.YtckioocahmbhkaaC2
import Derived.Outline
namespace Go.Proofs.Ytckioocahmbhkaa
open Go Go.RowKit Go.Maps Go.MuLone

/-- The block k of a text. -/
def blkIn (k : Nat) : Code → Option Code
  | .block n c => if n = k then some (.block n c) else blkIn k c
  | .seq a b => match blkIn k a with
    | some c => some c
    | none => blkIn k b
  | .cond _ a b => match blkIn k a with
    | some c => some c
    | none => blkIn k b
  | .loop c => blkIn k c
  | .scope c => blkIn k c
  | _ => none
noncomputable def blk (k : Nat) (f : Func) : Code := ((f.body.bind (blkIn k)).getD .skip)

/-- A list of pages in memory of its own. -/
structure Bo (w0 w : World) (own bown : Own) (bv : Value) (L : List (List UInt8)) : Prop where
  last : LastAt w bown bv L
  lt : ∀ k, bown.blocks k → w0.heap.size ≤ k ∧ k < w.heap.size ∧ ¬ own.blocks k

theorem Bo.form {w0 w : World} {own bown : Own} {bv : Value} {L : List (List UInt8)} (h : Bo w0 w own bown bv L) : ∃ a cap, bv = .slice a L.length cap := by
  obtain ⟨ls, hl, ha, _⟩ := h.last
  obtain ⟨a, cap, e, _⟩ := ownsRow_slice ha.1
  exact ⟨a, cap, e⟩

theorem Bo.nil (w0 w : World) (own : Own) : Bo w0 w own (fun _ => none) (.slice none 0 0) [] :=
  ⟨⟨[], rfl, ⟨World.ownsRow_nil _ _ _ _, fun g e => by simp [Value.ownBlock] at e⟩, fun i p hi => by simp at hi⟩, fun k hk => by simp [Own.blocks] at hk⟩

theorem Bo.step {w0 w w' : World} {own own' bown : Own} {bv : Value} {L : List (List UInt8)} (h : Bo w0 w own bown bv L) (hst : Step w own w' own') : Bo w0 w' own' bown bv L :=
  ⟨h.last.chg hst.chg (fun g e => (h.lt g (Own.blocks_of e)).2.2) (fun g i e => (h.lt g (Own.blocks_of e)).2.2),
   fun k hk => ⟨(h.lt k hk).1, (hst.keep (h.lt k hk).2.2 (h.lt k hk).2.1).2.1, (hst.keep (h.lt k hk).2.2 (h.lt k hk).2.1).1⟩⟩

theorem Bo.chg {w0 w w' : World} {own bown : Own} {bv : Value} {L : List (List UInt8)} {S : Nat → Prop} (h : Bo w0 w own bown bv L) (hc : Chg S w w') (hs : ∀ g, bown.blocks g → ¬ S g) : Bo w0 w' own bown bv L :=
  ⟨h.last.chg hc (fun g e => hs g (Own.blocks_of e)) (fun g i e => hs g (Own.blocks_of e)), fun k hk => ⟨(h.lt k hk).1, Nat.lt_of_lt_of_le (h.lt k hk).2.1 hc.size, (h.lt k hk).2.2⟩⟩

/-- One page more. -/
theorem Bo.snoc {w0 w w' : World} {own bown : Own} {bv : Value} {L : List (List UInt8)} {g ga cap capg : Nat} {ls : List Value} {p : List UInt8} (h : Bo w0 w own bown bv L)
    (hls : ls.length = L.length) (hlp : ∀ (i : Nat) (p : List UInt8), L[i]? = some p → ∃ v, ls[i]? = some v ∧ Buf w bown (.page i) v p) (hlo : ∀ g, bv.ownBlock = some g → bown g = some .larr)
    (hg0 : w0.heap.size ≤ g) (hgo : ¬ own.blocks g) (hg : ¬ bown.blocks g) (hga : bv.ownBlock = some ga ∨ w.heap.size ≤ ga ∧ ga ≠ g ∧ ¬ own.blocks ga) (hw0 : w0.heap.size ≤ w.heap.size) (hc : Chg (fun k => bv.ownBlock = some k) w w')
    (hp : w'.ownsRow 0 5 1 (.slice (some ⟨g, 0, none⟩) p.length capg) p.length (bVs p))
    (hl : w'.ownsRow 0 27 1 (.slice (some ⟨ga, 0, none⟩) (L.length + 1) cap) (L.length + 1) (ls ++ [.slice (some ⟨g, 0, none⟩) p.length capg])) :
    ∃ bown', Bo w0 w' own bown' (.slice (some ⟨ga, 0, none⟩) (L.length + 1) cap) (L ++ [p]) ∧ ∀ k, bown'.blocks k → bown.blocks k ∨ k = g ∨ k = ga := by
  have e1 : bown.le (bown.upd g (.page L.length)) := Own.le_upd _ hg
  have hgb : bv.ownBlock ≠ some g := fun e => hg (Own.blocks_of (hlo _ e))
  obtain ⟨own', e2, ho1, ho2, ho3⟩ : ∃ own' : Own, (bown.upd g (.page L.length)).le own' ∧ own' g = some (.page L.length) ∧ own' ga = some .larr ∧ ∀ k, own'.blocks k → bown.blocks k ∨ k = g ∨ k = ga := by
    by_cases hold : bv.ownBlock = some ga
    · exact ⟨_, Own.le_refl _, Own.upd_same _ _ _, e1 _ _ (hlo _ hold), fun k hk => (Own.blocks_upd hk).imp id Or.inl⟩
    · obtain ⟨hge, hne, _⟩ := hga.resolve_left hold
      refine ⟨(bown.upd g (.page L.length)).upd ga .larr, Own.le_upd _ (fun e => ?_), ?_, Own.upd_same _ _ _, fun k hk => ?_⟩
      · rcases Own.blocks_upd e with e | e
        · have := (h.lt ga e).2.1; omega
        · exact hne e
      · unfold Own.upd; rw [if_neg (Ne.symm hne), if_pos rfl]
      · rcases Own.blocks_upd hk with e | e
        · exact (Own.blocks_upd e).imp id Or.inl
        · exact .inr (.inr e)
  have hle := Own.le_trans e1 e2
  have k : ∀ x r, bown x = some r → r ≠ .larr → ¬ (bv.ownBlock = some x) := fun x r e hr' hx => by
    rw [hlo _ hx] at e; cases e; exact hr' rfl
  have hlg : g < w'.heap.size := row_lt hp
  have hlga : ga < w'.heap.size := row_lt hl
  refine ⟨own', ⟨⟨ls ++ [.slice (some ⟨g, 0, none⟩) p.length capg], by simp [hls], ⟨by simpa using hl, fun x hx => by cases hx; exact ho2⟩, fun i p' hi => ?_⟩, fun x hx => ?_⟩, ho3⟩
  · by_cases hlt : i < L.length
    · have hi' : L[i]? = some p' := by simpa [List.getElem?_append, hlt] using hi
      obtain ⟨v, hv, hbuf⟩ := hlp i p' hi'
      exact ⟨v, by rw [List.getElem?_append_left (by omega)]; exact hv, (hbuf.chg hc (fun x e => k x _ e (by simp))).le hle⟩
    · have hi' : i = L.length ∧ p = p' := by
        have := (List.getElem?_eq_some_iff.1 hi).1
        simp at this
        have e : i = L.length := by omega
        subst e
        simpa using hi
      obtain ⟨rfl, rfl⟩ := hi'
      exact ⟨_, by rw [← hls]; simp, g, capg, rfl, ho1, hp⟩
  · rcases ho3 x hx with e | e | e
    · exact ⟨(h.lt x e).1, Nat.lt_of_lt_of_le (h.lt x e).2.1 hc.size, (h.lt x e).2.2⟩
    · subst e; exact ⟨hg0, hlg, hgo⟩
    · subst e
      rcases hga with e | e
      · have := h.lt x (Own.blocks_of (hlo _ e))
        exact ⟨this.1, hlga, this.2.2⟩
      · exact ⟨by omega, hlga, e.2.2⟩

/-- A page is turned. -/
theorem Bo.setPage {w0 w w' : World} {own bown : Own} {bv : Value} {L : List (List UInt8)} {i g cap : Nat} {ls : List Value} {p p' : List UInt8} (h : Bo w0 w own bown bv L)
    (hls : ls.length = L.length) (harr : Arr w bown .larr 27 1 bv L.length ls) (hlp : ∀ (i : Nat) (p : List UInt8), L[i]? = some p → ∃ v, ls[i]? = some v ∧ Buf w bown (.page i) v p)
    (hi : L[i]? = some p) (hlen : p'.length = p.length) (hv : ls[i]? = some (.slice (some ⟨g, 0, none⟩) p.length cap)) (ho : bown g = some (.page i)) (hc : Chg (fun k => k = g) w w')
    (hnew : w'.ownsRow 0 5 1 (.slice (some ⟨g, 0, none⟩) p.length cap) p.length (bVs p')) :
    Bo w0 w' own bown bv (L.set i p') := by
  have k : ∀ x r, bown x = some r → r ≠ .page i → ¬ x = g := fun x r e hr hx => by subst hx; rw [ho] at e; cases e; exact hr rfl
  refine ⟨⟨ls, by simpa using hls, ?_, fun j q hj => ?_⟩, fun x hx => ⟨(h.lt x hx).1, Nat.lt_of_lt_of_le (h.lt x hx).2.1 hc.size, (h.lt x hx).2.2⟩⟩
  · have := harr.chg hc (fun x e => k x _ e (by simp))
    simpa using this
  · by_cases e : i = j
    · subst e
      have hlt := (List.getElem?_eq_some_iff.1 hi).1
      simp only [List.getElem?_set_self hlt, Option.some.injEq] at hj
      subst hj
      exact ⟨_, hv, g, cap, by rw [hlen], ho, by rw [hlen]; exact hnew⟩
    · simp only [List.getElem?_set_ne e] at hj
      obtain ⟨v, hv', hb⟩ := hlp j q hj
      exact ⟨v, hv', hb.chg hc (fun x e' => k x _ e' (by simp; exact Ne.symm e))⟩

end Go.Proofs.Ytckioocahmbhkaa
