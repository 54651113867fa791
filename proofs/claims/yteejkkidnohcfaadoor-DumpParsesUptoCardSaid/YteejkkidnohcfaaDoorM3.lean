/- Pairs that are lent: in new memory, a mark behind each key and each value. -/
import Derived.Test.YteejkkidnohcfaaDoorW18
import Derived.Test.YteejkkidnohcfaaDoorW15
namespace Go.Proofs.YteejkkidnohcfaaDoor
open Go Go.RowKit Go.Maps

/-- Bytes in a block of their own, a mark behind them. -/
def Lent1 (w : World) (v : Value) (bs : Bytes) (mk : UInt8) (g : Nat) : Prop :=
  ∃ cap, v = .slice (some ⟨g, 0, none⟩) bs.length cap ∧ bs.length + 1 ≤ cap ∧ w.ownsRow 0 5 1 (.slice (some ⟨g, 0, none⟩) (bs.length + 1) cap) (bs.length + 1) (bVs (bs ++ [mk]))
theorem Lent1.chg {w w' : World} {v : Value} {bs : Bytes} {mk : UInt8} {g : Nat} {S : Nat → Prop} (h : Lent1 w v bs mk g) (hc : Chg S w w') (hs : ¬ S g) : Lent1 w' v bs mk g := by
  obtain ⟨cap, e, hcap, hr⟩ := h
  exact ⟨cap, e, hcap, ownsRow_chg hr hc (fun k hk => by simp only [Value.ownBlock, Option.some.injEq] at hk; subst hk; exact hs)⟩
theorem Lent1.own {w : World} {v : Value} {bs : Bytes} {mk : UInt8} {g : Nat} (h : Lent1 w v bs mk g) : v.ownBlock = some g := by
  obtain ⟨cap, rfl, _⟩ := h; rfl
theorem Lent1.lt {w : World} {v : Value} {bs : Bytes} {mk : UInt8} {g : Nat} (h : Lent1 w v bs mk g) : g < w.heap.size := by
  obtain ⟨cap, _, _, hr⟩ := h
  exact row_lt hr g rfl
theorem Lent1.block {w : World} {v : Value} {bs : Bytes} {mk : UInt8} {g : Nat} (h : Lent1 w v bs mk g) : ∃ cs fz, w.heap[g]? = some (.cells cs 5 fz) := by
  obtain ⟨cap, _, _, hr⟩ := h
  rcases hr.2 with ⟨q, _⟩ | ⟨g1, c1, cur1, q, _, hh1, _⟩
  · cases q
  · cases q; exact ⟨_, _, hh1⟩
theorem Lent1.sees {w : World} {v : Value} {bs : Bytes} {mk : UInt8} {g : Nat} (h : Lent1 w v bs mk g) : SeesB w v bs := by
  obtain ⟨cap, rfl, hcap, hr⟩ := h
  exact sees_of_own hr (fun j x hx => by
    have hj := (List.getElem?_eq_some_iff.1 hx).1
    exact bVs_at (by rw [List.getElem?_append_left hj]; exact hx)) cap
theorem Lent1.mark {w : World} {v : Value} {bs : Bytes} {mk : UInt8} {g : Nat} (h : Lent1 w v bs mk g) : w.cell? ⟨g, bs.length, none⟩ = some (bV mk) := by
  obtain ⟨cap, rfl, hcap, hr⟩ := h
  have h1 : w.cell? ((⟨g, 0, none⟩ : Addr).add bs.length) = some (bV mk) := hr.cells rfl _ _ (bVs_at (by simp))
  rw [addr_add, Nat.zero_add] at h1; exact h1
theorem Lent1.cell {w : World} {v : Value} {bs : Bytes} {mk : UInt8} {g : Nat} (h : Lent1 w v bs mk g) {j : Nat} {x : UInt8} (hx : bs[j]? = some x) : w.cell? ⟨g, j, none⟩ = some (bV x) := by
  obtain ⟨cap, rfl, hcap, hr⟩ := h
  have hj := (List.getElem?_eq_some_iff.1 hx).1
  have h1 : w.cell? ((⟨g, 0, none⟩ : Addr).add j) = some (bV x) := hr.cells rfl _ _ (bVs_at (by rw [List.getElem?_append_left hj]; exact hx))
  rw [addr_add, Nat.zero_add] at h1; exact h1
theorem Lent1.free {w : World} {v : Value} {bs : Bytes} {mk : UInt8} {g : Nat} (h : Lent1 w v bs mk g) (j : Nat) : w.frozen? ⟨g, j, none⟩ = false := by
  obtain ⟨cap, rfl, hcap, hr⟩ := h
  exact hr.frozenAt j
theorem Lent1.set {w : World} {v : Value} {bs : Bytes} {mk : UInt8} {g j : Nat} (z : UInt8) (h : Lent1 w v bs mk g) (hj : j < bs.length) : Lent1 (w.setCell ⟨g, j, none⟩ (bV z)) v (bs.set j z) mk g := by
  obtain ⟨cap, rfl, hcap, hr⟩ := h
  have h1 := ownsRow_setCell hr j (bV z) (by rw [bVs_length, List.length_append]; omega)
  have h2 : (bVs (bs ++ [mk])).set j (bV z) = bVs (bs.set j z ++ [mk]) := by
    rw [bVs, bVs, ← List.map_set, List.set_append_left _ _ hj]
  rw [h2] at h1
  exact ⟨cap, by rw [List.length_set], by rw [List.length_set]; exact hcap, by rw [List.length_set]; exact h1⟩

/-- Lent pairs' bytes. -/
structure LentC (w wr : World) (vs : List (Value × Value)) (ps : List PairB) : Prop where
  len : vs.length = ps.length
  bytes : ∀ (j : Nat) x p, vs[j]? = some x → ps[j]? = some p → ∃ g1 g2, Lent1 wr x.1 p.1 201 g1 ∧ Lent1 wr x.2 p.2 202 g2 ∧ w.heap.size ≤ g1 ∧ g1 < g2
  order : ∀ (i j : Nat) x y, i < j → vs[i]? = some x → vs[j]? = some y → ∀ g k, x.2.ownBlock = some g → y.1.ownBlock = some k → g < k
theorem LentC.nil (w wr : World) : LentC w wr [] [] := ⟨rfl, fun j x p h => by simp at h, fun i j x y _ h => by simp at h⟩
theorem LentC.chg {w w1 w2 : World} {vs : List (Value × Value)} {ps : List PairB} {S : Nat → Prop} (h : LentC w w1 vs ps) (hc : Chg S w1 w2) (hs : ∀ g cs fz, w1.heap[g]? = some (.cells cs 5 fz) → ¬ S g) : LentC w w2 vs ps :=
  ⟨h.len, fun j x p hx hp => by
    obtain ⟨g1, g2, h1, h2, h3, h4⟩ := h.bytes j x p hx hp
    obtain ⟨c1, f1, e1⟩ := h1.block
    obtain ⟨c2, f2, e2⟩ := h2.block
    exact ⟨g1, g2, h1.chg hc (hs g1 _ _ e1), h2.chg hc (hs g2 _ _ e2), h3, h4⟩, h.order⟩
theorem LentC.chg0 {w w1 w2 : World} {vs : List (Value × Value)} {ps : List PairB} (h : LentC w w1 vs ps) (hc : Chg (fun _ => False) w1 w2) : LentC w w2 vs ps := h.chg hc (fun _ _ _ _ f => f)
/-- A row's block holds no bytes, if it is a row of pairs. -/
theorem row44_ne {w : World} {B n sz : Nat} {v : Value} {xs : List Value} (h : w.ownsRow B 44 sz v n xs) : ∀ g cs fz, w.heap[g]? = some (.cells cs 5 fz) → ¬ v.ownBlock = some g := by
  intro g cs fz hg e
  rcases h.2 with ⟨q, _⟩ | ⟨g1, c1, cur1, q, _, hh1, _⟩
  · rw [q] at e; simp [Value.ownBlock] at e
  · rw [q] at e; simp only [Value.ownBlock, Option.some.injEq] at e
    subst e
    rw [hg] at hh1
    injection hh1 with h3
    injection h3 with _ h5
    exact absurd h5 (by decide)
theorem LentC.push {w wr : World} {vs : List (Value × Value)} {ps : List PairB} (h : LentC w wr vs ps) {kv uv : Value} {p : PairB} {g1 g2 B : Nat} (h1 : Lent1 wr kv p.1 201 g1) (h2 : Lent1 wr uv p.2 202 g2) (h3 : w.heap.size ≤ g1) (h4 : g1 < g2)
    (hB : B ≤ g1) (hold : ∀ (j : Nat) x, vs[j]? = some x → ∀ g, x.2.ownBlock = some g → g < B) : LentC w wr (vs ++ [(kv, uv)]) (ps ++ [p]) := by
  refine ⟨by simp [h.len], fun j x q hx hq => ?_, fun i j x y hij hx hy g k hg hk => ?_⟩
  · rcases Nat.lt_or_ge j ps.length with hj | hj
    · rw [List.getElem?_append_left (by rw [h.len]; exact hj)] at hx
      rw [List.getElem?_append_left hj] at hq
      exact h.bytes j x q hx hq
    · rw [List.getElem?_append_right hj] at hq
      rw [List.getElem?_append_right (by rw [h.len]; exact hj), h.len] at hx
      have h0 : j - ps.length = 0 := by
        have := (List.getElem?_eq_some_iff.1 hq).1
        simp at this; omega
      rw [h0] at hx hq
      simp at hx hq
      subst hx; subst hq
      exact ⟨g1, g2, h1, h2, h3, h4⟩
  · rcases Nat.lt_or_ge j vs.length with hj | hj
    · rw [List.getElem?_append_left (by omega)] at hx
      rw [List.getElem?_append_left hj] at hy
      exact h.order i j x y hij hx hy g k hg hk
    · rw [List.getElem?_append_right hj] at hy
      have h0 : j - vs.length = 0 := by
        have := (List.getElem?_eq_some_iff.1 hy).1
        simp at this; omega
      rw [h0] at hy
      simp at hy
      subst hy
      rw [List.getElem?_append_left (by omega)] at hx
      rw [h1.own] at hk
      have := hold i x hx g hg
      cases hk
      omega
theorem LentC.bound {w wr : World} {vs : List (Value × Value)} {ps : List PairB} (h : LentC w wr vs ps) : ∀ (j : Nat) x, vs[j]? = some x → ∀ g, x.2.ownBlock = some g → g < wr.heap.size := by
  intro j x hx g hg
  have hj := (List.getElem?_eq_some_iff.1 hx).1
  obtain ⟨g1, g2, _, h2, _⟩ := h.bytes j x _ hx (List.getElem?_eq_getElem (by rw [← h.len]; exact hj))
  rw [h2.own] at hg
  cases hg
  exact h2.lt
/-- All blocks are unlike. -/
theorem LentC.apart {w wr : World} {vs : List (Value × Value)} {ps : List PairB} (h : LentC w wr vs ps) {i j : Nat} {x y : Value × Value} (hij : i ≠ j) (hx : vs[i]? = some x) (hy : vs[j]? = some y) {g1 g2 k1 k2 : Nat}
    (e1 : x.1.ownBlock = some g1) (e2 : x.2.ownBlock = some g2) (f1 : y.1.ownBlock = some k1) (f2 : y.2.ownBlock = some k2) : g1 ≠ k1 ∧ g1 ≠ k2 ∧ g2 ≠ k1 ∧ g2 ≠ k2 := by
  have key : ∀ (j : Nat) (x : Value × Value) a b, vs[j]? = some x → x.1.ownBlock = some a → x.2.ownBlock = some b → a < b := by
    intro j x a b hx ha hb
    have hj := (List.getElem?_eq_some_iff.1 hx).1
    obtain ⟨g1, g2, h1, h2, _, h4⟩ := h.bytes j x _ hx (List.getElem?_eq_getElem (by rw [← h.len]; exact hj))
    rw [h1.own] at ha; rw [h2.own] at hb
    cases ha; cases hb; exact h4
  have a1 := key i x g1 g2 hx e1 e2
  have a2 := key j y k1 k2 hy f1 f2
  rcases Nat.lt_or_gt_of_ne hij with hl | hl
  · have := h.order i j x y hl hx hy g2 k1 e2 f1; omega
  · have := h.order j i y x hl hy hx k2 g1 f2 e1; omega
/-- One byte of a value, or of a key, turned. -/
theorem LentC.set {w wr : World} {vs : List (Value × Value)} {ps : List PairB} (h : LentC w wr vs ps) {i j g : Nat} {x : Value × Value} {p p' : PairB} (z : UInt8) (hx : vs[i]? = some x) (hp : ps[i]? = some p)
    (hcase : (x.1.ownBlock = some g ∧ j < p.1.length ∧ p' = (p.1.set j z, p.2)) ∨ (x.2.ownBlock = some g ∧ j < p.2.length ∧ p' = (p.1, p.2.set j z))) :
    LentC w (wr.setCell ⟨g, j, none⟩ (bV z)) vs (ps.set i p') := by
  refine ⟨by rw [List.length_set]; exact h.len, fun k y q hy hq => ?_, h.order⟩
  have CS : Chg (fun k => k = g) wr (wr.setCell ⟨g, j, none⟩ (bV z)) := Chg.setCell (S := fun k => k = g) (Chg.refl _ wr) (p := ⟨g, j, none⟩) (.inl rfl) _
  obtain ⟨g1, g2, h1, h2, h3, h4⟩ := h.bytes i x p hx hp
  rw [List.getElem?_set] at hq
  by_cases e : i = k
  · subst e
    rw [if_pos rfl, if_pos (List.getElem?_eq_some_iff.1 hp).1] at hq
    rw [hx] at hy
    cases hy; cases hq
    rcases hcase with ⟨e1, hj, rfl⟩ | ⟨e1, hj, rfl⟩
    · rw [h1.own] at e1; cases e1
      exact ⟨_, _, h1.set z hj, h2.chg CS (by omega), h3, h4⟩
    · rw [h2.own] at e1; cases e1
      exact ⟨_, _, h1.chg CS (by omega), h2.set z hj, h3, h4⟩
  · rw [if_neg e] at hq
    obtain ⟨k1, k2, m1, m2, m3, m4⟩ := h.bytes k y q hy hq
    have ha := h.apart e hx hy h1.own h2.own m1.own m2.own
    refine ⟨k1, k2, m1.chg CS ?_, m2.chg CS ?_, m3, m4⟩
    · rcases hcase with ⟨e1, _⟩ | ⟨e1, _⟩
      · rw [h1.own] at e1; cases e1; omega
      · rw [h2.own] at e1; cases e1; omega
    · rcases hcase with ⟨e1, _⟩ | ⟨e1, _⟩
      · rw [h1.own] at e1; cases e1; omega
      · rw [h2.own] at e1; cases e1; omega

/-- What lent answers: the pairs, one more behind them. -/
structure LentR (w wr : World) (v : Value) (vs : List (Value × Value)) (ps : List PairB) : Prop where
  at' : ∃ g cap gz, v = .slice (some ⟨g, 0, none⟩) ps.length cap ∧ ps.length + 1 ≤ cap ∧ w.heap.size ≤ g ∧ wr.ownsRow 0 44 2 (.slice (some ⟨g, 0, none⟩) (ps.length + 1) cap) (ps.length + 1) (pCells (vs ++ [(.slice (some ⟨gz, 0, none⟩) 1 1, .slice none 0 0)])) ∧ w.heap.size ≤ gz ∧ (∀ (j : Nat) x, vs[j]? = some x → x.2.ownBlock ≠ some gz ∧ x.1.ownBlock ≠ some gz) ∧ g ≠ gz ∧ wr.cell? ⟨gz, 0, none⟩ = some (.int .u8 203)
  core : LentC w wr vs ps
theorem LentR.chg0 {w w1 w2 : World} {v : Value} {vs : List (Value × Value)} {ps : List PairB} (h : LentR w w1 v vs ps) (hc : Chg (fun _ => False) w1 w2) : LentR w w2 v vs ps := by
  obtain ⟨⟨g, cap, gz, h1, h2, h3, h4, h5, h6, h7, h8⟩, hcore⟩ := h
  exact ⟨⟨g, cap, gz, h1, h2, h3, ownsRow_chg h4 hc (fun _ _ f => f), h5, h6, h7, cell_chg hc h8 (fun f => f)⟩, hcore.chg0 hc⟩
theorem LentR.sees {w wr : World} {v : Value} {vs : List (Value × Value)} {ps : List PairB} (h : LentR w wr v vs ps) : SeesP wr v ps := by
  obtain ⟨⟨g, cap, gz, rfl, h2, h3, h4, h5, h6, h7, h8⟩, hcore⟩ := h
  refine ⟨_, cap, rfl, (fun e => by cases e), fun ad e j p hp => ?_⟩
  cases e
  have hj := (List.getElem?_eq_some_iff.1 hp).1
  obtain ⟨x, hx⟩ : ∃ x, vs[j]? = some x := ⟨_, List.getElem?_eq_getElem (by rw [hcore.len]; exact hj)⟩
  obtain ⟨g1, g2, l1, l2, _⟩ := hcore.bytes j x p hx hp
  obtain ⟨c1, c2⟩ := pCells_get (vs ++ [(.slice (some ⟨gz, 0, none⟩) 1 1, .slice none 0 0)]) j x (by rw [List.getElem?_append_left (by rw [hcore.len]; exact hj)]; exact hx)
  exact ⟨x.1, x.2, h4.cells rfl _ _ c1, h4.cells rfl _ _ c2, l1.sees, l2.sees⟩
theorem LentR.set {w wr : World} {v : Value} {vs : List (Value × Value)} {ps : List PairB} (h : LentR w wr v vs ps) {i j g : Nat} {x : Value × Value} {p p' : PairB} (z : UInt8) (hx : vs[i]? = some x) (hp : ps[i]? = some p)
    (hcase : (x.1.ownBlock = some g ∧ j < p.1.length ∧ p' = (p.1.set j z, p.2)) ∨ (x.2.ownBlock = some g ∧ j < p.2.length ∧ p' = (p.1, p.2.set j z))) :
    LentR w (wr.setCell ⟨g, j, none⟩ (bV z)) v vs (ps.set i p') ∧ w.heap.size ≤ g := by
  obtain ⟨⟨g0, cap, gz, h1, h2, h3, h4, h5, h6, h7, h8⟩, hcore⟩ := h
  obtain ⟨g1, g2, l1, l2, l3, l4⟩ := hcore.bytes i x p hx hp
  have CS : Chg (fun k => k = g) wr (wr.setCell ⟨g, j, none⟩ (bV z)) := Chg.setCell (S := fun k => k = g) (Chg.refl _ wr) (p := ⟨g, j, none⟩) (.inl rfl) _
  have hg : g = g1 ∨ g = g2 := by
    rcases hcase with ⟨e1, _⟩ | ⟨e1, _⟩
    · rw [l1.own] at e1; cases e1; exact .inl rfl
    · rw [l2.own] at e1; cases e1; exact .inr rfl
  have hb : ∃ cs fz, wr.heap[g]? = some (.cells cs 5 fz) := by
    rcases hg with rfl | rfl
    · exact l1.block
    · exact l2.block
  obtain ⟨cs, fz, hb⟩ := hb
  have hgz : g ≠ gz := by
    obtain ⟨q1, q2⟩ := h6 i x hx
    rcases hg with rfl | rfl
    · rintro rfl; exact q2 l1.own
    · rintro rfl; exact q1 l2.own
  refine ⟨⟨⟨g0, cap, gz, by rw [List.length_set]; exact h1, by rw [List.length_set]; exact h2, h3, by rw [List.length_set]; exact ownsRow_chg h4 CS (fun k hk e => row44_ne h4 g _ _ hb (by rw [← e]; exact hk)), h5, h6, h7, cell_chg CS h8 (Ne.symm hgz)⟩, hcore.set z hx hp hcase⟩, ?_⟩
  rcases hg with rfl | rfl <;> omega
/-! ### The same lengths -/
theorem hexB_len (l : Bytes) : (hexB l).length = if l.length = 0 then 1 else 2 * l.length := by
  unfold hexB
  cases l with
  | nil => rfl
  | cons a l => rw [if_neg (by simp), if_neg (by simp), hexs_length]
theorem lineOf_len {p q : PairB} (h1 : p.1.length = q.1.length) (h2 : p.2.length = q.2.length) : (lineOf p).length = (lineOf q).length := by
  simp [lineOf, hexB_len, h1, h2]
theorem linesOf_set : ∀ (ps : List PairB) (i : Nat) (p p' : PairB), ps[i]? = some p → p'.1.length = p.1.length → p'.2.length = p.2.length → (linesOf (ps.set i p')).length = (linesOf ps).length
  | [], i, p, p', h, _, _ => by simp at h
  | q :: ps, 0, p, p', h, h1, h2 => by
    simp at h; subst h
    simp [List.set, linesOf_cons, lineOf_len h1 h2]
  | q :: ps, i + 1, p, p', h, h1, h2 => by
    have := linesOf_set ps i p p' (by simpa using h) h1 h2
    simp [List.set, linesOf_cons, this]
theorem SmallP.set {ps : List PairB} (h : SmallP ps) {i : Nat} {p p' : PairB} (hp : ps[i]? = some p) (h1 : p'.1.length = p.1.length) (h2 : p'.2.length = p.2.length) : SmallP (ps.set i p') := by
  refine ⟨fun q hq => ?_, by rw [List.length_set]; exact h.len, by rw [linesOf_set ps i p p' hp h1 h2]; exact h.sum⟩
  rcases List.mem_or_eq_of_mem_set hq with hq | rfl
  · exact h.key q hq
  · have := h.key p (List.mem_of_getElem? hp); omega
end Go.Proofs.YteejkkidnohcfaaDoor
