/- Walks: lay. -/
import Derived.Test.YtckioocahmbhkaaGreatDoorW4
import Derived.Deep.RegionHeld3
import Derived.Deep.AppendLies
import Derived.BigQuiet
namespace Go.Proofs.YtckioocahmbhkaaGreatDoor
open Go Go.RowKit Go.Maps Go.MuLone

/-- copy into a row that is known whole: what turns is that row. -/
theorem step_copy {P : Program} {ops : Array Oper} {o : Oper} {a : Act} {w : World} {K : Act → World → Prop} {Q : Exit → Act → World → Prop} {E : Prop} (hgd : o.guard = none) (d s : Operand) (dT sT : TypeId)
    (ho : o.op = .call { callee := .builtin .copy, args := #[d, s], argTypes := #[dT, sT] }) (elem : TypeId) (hu : P.underlying dT = some (.slice elem)) (hsz : (P.info? elem).map (·.size) = some 1)
    (dp sp : Option Addr) (dLen dCap sLen sCap : Nat) (hd : a.eval d = .slice dp dLen dCap) (hs : a.eval s = .slice sp sLen sCap)
    (g off : Nat) (cur : List Value) (t : TypeId) (hg : w.heap[g]? = some (.cells cur.toArray t (0, 0))) (cs : List Value) (hn : cs.length = Nat.min sLen dLen)
    (hpos : 0 < cs.length → dp = some ⟨g, off, none⟩ ∧ ∃ ad, sp = some ad ∧ ∀ j v, cs[j]? = some v → w.cell? (ad.add j) = some v)
    (hfit : off + cs.length ≤ cur.length) (h1 : ∀ v ∈ cs, v.oneCell' = true)
    (h : ∀ w', RowKit.Hid (w'.heap[g]? = some (.cells (splice cur off cs).toArray t (0, 0))) → w.grownBy w' (some g) → K (a.put o.dst (goInt cs.length)) w') :
    if Region.wanted o (yielded ops a.tmps) = true then Oper.wp P o a w K Q else E := by
  have hw : Region.wanted o (yielded ops a.tmps) = true := by simp [Region.wanted, hgd]
  rw [if_pos hw]
  by_cases h0 : cs.length = 0
  · obtain rfl : cs = [] := List.eq_nil_of_length_eq_zero h0
    have hrun := run_copy_none (P := P) w dT sT o.type elem dp sp dLen dCap sLen sCap hu hsz (by simpa using hn.symm)
    unfold Oper.wp
    simp [execOp, ho, resolve, invoke, builtin, hd, hs, hrun, Result.andThen]
    exact h w (show _ = _ by simpa [splice] using hg) ⟨rfl, rfl, rfl, Nat.le_refl _, fun _ _ _ => rfl⟩
  · obtain ⟨rfl, ad, rfl, hsrc⟩ := hpos (by omega)
    have hrun := run_copy_row (P := P) w dT sT o.type elem g off dLen dCap ad sLen sCap cur.toArray t cs hu hsz hg hn hsrc (by simpa using hfit) h1
    unfold Oper.wp
    simp [execOp, ho, resolve, invoke, builtin, hd, hs, hrun, Result.andThen]
    exact h _ (show _ = _ by simpa [splice] using setRow_heap w g _ _ t _ hg) ⟨rfl, rfl, rfl, by simp, fun k _ hk => setRow_other w g k _ (fun e => hk (by rw [e]))⟩

def zpage : List UInt8 := rep 4096 0

/-- How long the slice in the struct's field is. -/
def lenAt (w : World) (b : Nat) : Nat := match w.cell? ⟨b, 3, none⟩ with | some (.slice _ n _) => n | _ => 0

def layL (L : List (List UInt8)) (no : Nat) (p : List UInt8) (n : Nat) : List (List UInt8) :=
  (L ++ rep (no + 1 - L.length) zpage).set no (p.take n ++ ((L ++ rep (no + 1 - L.length) zpage).getD no []).drop n)

/-- One page more at the end. -/
theorem DiskF.grow {w w' : World} {own : Own} {L : Int} {b : Nat} {D : DS} {sema lv pv : Value} {m g ga cap capg : Nat} {ls : List Value} {p : List UInt8} (h : DiskF w own L b D sema lv pv m)
    (hls : ls.length = D.lasting.length) (hlp : ∀ (i : Nat) (p : List UInt8), D.lasting[i]? = some p → ∃ v, ls[i]? = some v ∧ Buf w own (.page i) v p) (hlo : ∀ g, lv.ownBlock = some g → own g = some .larr)
    (hg : w.heap.size ≤ g) (hga : lv.ownBlock = some ga ∨ w.heap.size ≤ ga ∧ ga ≠ g) (hc : Chg (fun k => k = b ∨ lv.ownBlock = some k) w w')
    (hp : w'.ownsRow 0 5 1 (.slice (some ⟨g, 0, none⟩) p.length capg) p.length (bVs p))
    (hl : w'.ownsRow 0 47 1 (.slice (some ⟨ga, 0, none⟩) (D.lasting.length + 1) cap) (D.lasting.length + 1) (ls ++ [.slice (some ⟨g, 0, none⟩) p.length capg]))
    (hb : w'.heap[b]? = some (.cells (strCells L sema (.slice (some ⟨ga, 0, none⟩) (D.lasting.length + 1) cap) pv m D) 76 (0, 0))) :
    ∃ own', DiskF w' own' L b { D with lasting := D.lasting ++ [p] } sema (.slice (some ⟨ga, 0, none⟩) (D.lasting.length + 1) cap) pv m ∧ own.le own' ∧ Step w own w' own' := by
  have hng : ¬ own.blocks g := fun e => by have := h.lt g e; omega
  have e1 : own.le (own.upd g (.page D.lasting.length)) := Own.le_upd _ hng
  obtain ⟨own', e2, ho1, ho2, ho3⟩ : ∃ own' : Own, (own.upd g (.page D.lasting.length)).le own' ∧ own' g = some (.page D.lasting.length) ∧ own' ga = some .larr ∧ ∀ k, own'.blocks k → own.blocks k ∨ k = g ∨ k = ga := by
    by_cases hold : lv.ownBlock = some ga
    · exact ⟨_, Own.le_refl _, Own.upd_same _ _ _, e1 _ _ (hlo _ hold), fun k hk => (Own.blocks_upd hk).imp id Or.inl⟩
    · obtain ⟨hge, hne⟩ := hga.resolve_left hold
      refine ⟨(own.upd g (.page D.lasting.length)).upd ga .larr, Own.le_upd _ (fun e => ?_), ?_, Own.upd_same _ _ _, fun k hk => ?_⟩
      · rcases Own.blocks_upd e with e | e
        · have := h.lt ga e; omega
        · exact hne e
      · unfold Own.upd; rw [if_neg (Ne.symm hne), if_pos rfl]
      · rcases Own.blocks_upd hk with e | e
        · exact (Own.blocks_upd e).imp id Or.inl
        · exact .inr (.inr e)
  have hle := Own.le_trans e1 e2
  have k : ∀ x r, own x = some r → r ≠ .str → r ≠ .larr → ¬ (x = b ∨ lv.ownBlock = some x) := fun x r e hr hr' hx => by
    rcases hx with hx | hx
    · exact not_b h.str e hr hx
    · rw [hlo _ hx] at e; cases e; exact hr' rfl
  have hlg : g < w'.heap.size := by
    rcases hp.2 with ⟨h0, _⟩ | ⟨g', _, _, h0, _, hh, _⟩
    · cases h0
    · cases h0; exact heap_lt hh
  have hlga : ga < w'.heap.size := by
    rcases hl.2 with ⟨h0, _⟩ | ⟨g', _, _, h0, _, hh, _⟩
    · cases h0
    · cases h0; exact heap_lt hh
  refine ⟨own', ⟨hle _ _ h.str, hb, ?_, ?_, ?_, h.f0, h.f1, ?_⟩, hle, ⟨hc.mono (fun x hx => ?_), fun x hx => ?_⟩⟩
  · refine ⟨ls ++ [.slice (some ⟨g, 0, none⟩) p.length capg], by simp [hls], ⟨by simpa using hl, fun x hx => by cases hx; exact ho2⟩, fun i p' hi => ?_⟩
    by_cases hlt : i < D.lasting.length
    · have hi' : D.lasting[i]? = some p' := by simpa [List.getElem?_append, hlt] using hi
      obtain ⟨v, hv, hbuf⟩ := hlp i p' hi'
      exact ⟨v, by rw [List.getElem?_append_left (by omega)]; exact hv, (hbuf.chg hc (fun x e => k x _ e (by simp) (by simp))).le hle⟩
    · have hi' : i = D.lasting.length ∧ p = p' := by
        have := (List.getElem?_eq_some_iff.1 hi).1
        simp at this
        have e : i = D.lasting.length := by omega
        subst e
        simpa using hi
      obtain ⟨rfl, rfl⟩ := hi'
      exact ⟨_, by rw [← hls]; simp, g, capg, rfl, ho1, hp⟩
  · exact (h.pend.chg hc (fun x e => k x _ e (by simp) (by simp)) (fun x i e => k x _ e (by simp) (by simp))).le hle
  · exact (h.now.chg hc (fun x e => k x _ e (by simp) (by simp)) (fun x i e => k x _ e (by simp) (by simp))).le hle
  · intro x hx
    rcases ho3 x hx with e | e | e
    · exact Nat.lt_of_lt_of_le (h.lt x e) hc.size
    · subst e; exact hlg
    · subst e; exact hlga
  · rcases hx with e | e
    · subst e; exact Own.blocks_of h.str
    · exact Own.blocks_of (hlo _ e)
  · rcases ho3 x hx with e | e | e
    · exact .inl e
    · subst e; exact .inr hg
    · subst e
      rcases hga with e | e
      · exact .inl (Own.blocks_of (hlo _ e))
      · exact .inr e.1

end Go.Proofs.YtckioocahmbhkaaGreatDoor
