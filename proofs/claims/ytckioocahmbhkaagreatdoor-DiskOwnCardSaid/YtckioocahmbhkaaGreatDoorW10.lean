/- Write: what it leaves. -/
import Derived.Test.YtckioocahmbhkaaGreatDoorW9
namespace Go.Proofs.YtckioocahmbhkaaGreatDoor
open Go Go.RowKit Go.Maps Go.MuLone

theorem lastOf_snoc (qs : List (Nat × List UInt8)) (i : Nat) (p : List UInt8) (j : Int) : lastOf (qs ++ [(i, p)]) j = if j = i then some p else lastOf qs j := by
  unfold lastOf
  rw [List.reverse_append, List.reverse_singleton, List.singleton_append, List.find?_cons]
  by_cases h : j = i
  · subst h; simp
  · have : ((i : Int) == j) = false := by simpa using fun e => h e.symm
    simp [this, h]

theorem pcells_snoc (qs : List (Nat × List UInt8)) (vs : List Value) (h : vs.length = qs.length) (q : Nat × List UInt8) (v : Value) : pcells (qs ++ [q]) (vs ++ [v]) = pcells qs vs ++ [.int .i64 q.1, v] := by
  unfold pcells
  rw [List.zip_append h.symm]
  simp

theorem isKey_int (i : Int) : WideAt.IsKeyLit (.int .i64 i) := by
  first | exact trivial | simp [WideAt.IsKeyLit]

theorem DiskF.write {w w' : World} {own : Own} {L : Int} {b : Nat} {D : DS} {sema lv pv : Value} {m : Nat} (h : DiskF w own L b D sema lv pv m) {vs : List Value} (hvl : vs.length = D.pending.length)
    (hpo : ∀ g, pv.ownBlock = some g → own g = some .parr) (hpv : ∀ (i : Nat) (q : Nat × List UInt8), D.pending[i]? = some q → ∃ v, vs[i]? = some v ∧ Buf w own (.pend i) v q.2) {M : DataW Value}
    (hMq : ∀ i : Int, match lastOf D.pending i with
      | none => Maps.has M (.int .i64 i) = false
      | some p => Maps.has M (.int .i64 i) = true ∧ ∃ v, (∀ z, M.atKey (.int .i64 i) z = .held v) ∧ Buf w own (.now i) v p)
    (hMm : Maps.IsMap M) (hc : Chg (fun k => k = b ∨ pv.ownBlock = some k ∨ k = m) w w') (i : Nat) (p : List UInt8) {g1 c1 g2 c2 gg cg : Nat}
    (hg1 : w.heap.size ≤ g1) (hg2 : w.heap.size ≤ g2) (h12 : g1 ≠ g2) (hgg : pv.ownBlock = some gg ∨ (w.heap.size ≤ gg ∧ gg ≠ g1 ∧ gg ≠ g2))
    (r1 : w'.ownsRow 0 5 1 (.slice (some ⟨g1, 0, none⟩) p.length c1) p.length (bVs p)) (r2 : w'.ownsRow 0 5 1 (.slice (some ⟨g2, 0, none⟩) p.length c2) p.length (bVs p))
    (ra : w'.ownsRow 0 78 2 (.slice (some ⟨gg, 0, none⟩) (D.pending.length + 1) cg) (D.pending.length + 1) (pcells D.pending vs ++ [.int .i64 i, .slice (some ⟨g1, 0, none⟩) p.length c1]))
    (hm : w'.ownsMap Tryz.prog 3 RV m (D.wr + 1) (M.put (.int .i64 i) (.held (.slice (some ⟨g2, 0, none⟩) p.length c2))))
    (hb : w'.heap[b]? = some (.cells (strCells L sema lv (.slice (some ⟨gg, 0, none⟩) (D.pending.length + 1) cg) m D) 76 (0, 0))) :
    ∃ own', DiskF w' own' L b { D with pending := D.pending ++ [(i, p)], wr := D.wr + 1 } sema lv (.slice (some ⟨gg, 0, none⟩) (D.pending.length + 1) cg) m ∧ own.le own' ∧ Step w own w' own' := by
  obtain ⟨own', ho⟩ : ∃ own' : Own, own' = fun k => if k = g1 then some (.pend D.pending.length) else if k = g2 then some (.now i) else if k = gg then some .parr else own k := ⟨_, rfl⟩
  have lt : ∀ k r, own k = some r → k < w.heap.size := fun k r e => h.lt k (Own.blocks_of e)
  have hle : own.le own' := fun k r e => by
    have hk := lt k r e
    rw [ho]
    show (if k = g1 then _ else _) = _
    rw [if_neg (by omega), if_neg (by omega)]
    by_cases e3 : k = gg
    · rw [if_pos e3]
      rcases hgg with e4 | e4
      · have := hpo _ e4; rw [← e3, e] at this; exact this.symm
      · omega
    · rw [if_neg e3]; exact e
  have o1 : own' g1 = some (.pend D.pending.length) := by rw [ho]; simp
  have o2 : own' g2 = some (.now i) := by rw [ho]; simp [Ne.symm h12]
  have o3 : own' gg = some .parr := by
    rcases hgg with e | e
    · exact hle _ _ (hpo _ e)
    · rw [ho]; simp [e.2.1, e.2.2]
  have hbl : ∀ k, own'.blocks k → own.blocks k ∨ k = g1 ∨ k = g2 ∨ k = gg := fun k hk => by
    unfold Own.blocks at hk
    rw [ho] at hk
    by_cases e1 : k = g1
    · exact .inr (.inl e1)
    · by_cases e2 : k = g2
      · exact .inr (.inr (.inl e2))
      · by_cases e3 : k = gg
        · exact .inr (.inr (.inr e3))
        · simp [e1, e2, e3] at hk; exact .inl hk
  have kk : ∀ x r, own x = some r → r ≠ .str → r ≠ .parr → r ≠ .mp → ¬ (x = b ∨ pv.ownBlock = some x ∨ x = m) := fun x r e hr hr' hr'' hx => by
    rcases hx with hx | hx | hx
    · exact not_b h.str e hr hx
    · rw [hpo _ hx] at e; cases e; exact hr' rfl
    · subst hx; rw [h.now.1] at e; cases e; exact hr'' rfl
  have hlt : ∀ {e : TypeId} {sz g n c : Nat} {xs : List Value}, w'.ownsRow 0 e sz (.slice (some ⟨g, 0, none⟩) n c) n xs → g < w'.heap.size := fun hr => by
    rcases hr.2 with ⟨h0, _⟩ | ⟨g', _, _, h0, _, hh, _⟩
    · cases h0
    · cases h0; exact heap_lt hh
  refine ⟨own', ⟨hle _ _ h.str, hb, (h.last.chg hc (fun x e => kk x _ e (by simp) (by simp) (by simp)) (fun x i e => kk x _ e (by simp) (by simp) (by simp))).le hle, ?_, ⟨hle _ _ h.now.1, _, hm, fun j => ?_⟩, h.f0, h.f1, fun k hk => ?_⟩, hle, ⟨hc.mono (fun x hx => ?_), fun k hk => ?_⟩⟩
  · refine ⟨vs ++ [.slice (some ⟨g1, 0, none⟩) p.length c1], by simp [hvl], ⟨?_, fun x hx => by cases hx; exact o3⟩, fun j q hj => ?_⟩
    · show w'.ownsRow 0 78 2 _ (D.pending ++ [(i, p)]).length (pcells (D.pending ++ [(i, p)]) (vs ++ [.slice (some ⟨g1, 0, none⟩) p.length c1]))
      rw [pcells_snoc _ _ hvl, List.length_append]
      exact ra
    · by_cases hlt' : j < D.pending.length
      · have hj' : D.pending[j]? = some q := by simpa [List.getElem?_append, hlt'] using hj
        obtain ⟨v, hv, hbuf⟩ := hpv j q hj'
        exact ⟨v, by rw [List.getElem?_append_left (by omega)]; exact hv, (hbuf.chg hc (fun x e => kk x _ e (by simp) (by simp) (by simp))).le hle⟩
      · have hj' : j = D.pending.length ∧ (i, p) = q := by
          have := (List.getElem?_eq_some_iff.1 hj).1
          simp at this
          have e : j = D.pending.length := by omega
          subst e
          simpa using hj
        obtain ⟨rfl, rfl⟩ := hj'
        exact ⟨_, by rw [← hvl]; simp, g1, c1, rfl, o1, r1⟩
  · show match lastOf (D.pending ++ [(i, p)]) j with
      | none => _
      | some p => _
    rw [lastOf_snoc]
    by_cases e : j = i
    · subst e
      rw [if_pos rfl]
      exact ⟨has_put_same hMm (isKey_int _) _, _, fun z => atKey_put_same hMm (isKey_int _) _ z, g2, c2, rfl, o2, r2⟩
    · rw [if_neg e]
      have hq := hMq j
      split
      · rename_i e2
        rw [e2] at hq
        rw [has_put_other (by simpa using e)]; exact hq
      · rename_i p' e2
        rw [e2] at hq
        obtain ⟨q1, v, q2, q3⟩ := hq
        refine ⟨by rw [has_put_other (by simpa using e)]; exact q1, v, fun z => by rw [atKey_put_other (by simpa using e)]; exact q2 z, (q3.chg hc (fun x e => kk x _ e (by simp) (by simp) (by simp))).le hle⟩
  · rcases hbl k hk with e | e | e | e
    · exact Nat.lt_of_lt_of_le (h.lt k e) hc.size
    · subst e; exact hlt r1
    · subst e; exact hlt r2
    · subst e; exact hlt ra
  · rcases hx with e | e | e
    · subst e; exact Own.blocks_of h.str
    · exact Own.blocks_of (hpo _ e)
    · subst e; exact Own.blocks_of h.now.1
  · rcases hbl k hk with e | e | e | e
    · exact .inl e
    · subst e; exact .inr hg1
    · subst e; exact .inr hg2
    · subst e
      rcases hgg with e | e
      · exact .inl (Own.blocks_of (hpo _ e))
      · exact .inr e.1

end Go.Proofs.YtckioocahmbhkaaGreatDoor
