/- Lists that a book keeps: which block is whose, rows that grow; of no program. -/
import Derived.Test.YtckioocahmbhkaaGreatDoorHeap
import Derived.ArgAppend
import Derived.Deep.DeepAppendRoom
import Derived.Deep.AppendLies
import Derived.Lib.AppendZeros
namespace Go.Proofs.YtckioocahmbhkaaGreatDoor
open Go Go.RowKit Go.Maps

theorem bk_cell {S : Nat → Prop} {w w' : World} {a : Addr} {v : Value} (h : Chg S w w') (hv : w.cell? a = some v) (hs : ¬ S a.block) : w'.cell? a = some v :=
  (World.cell?_of_block (w := w) (w' := w') (a := a) (h.block a.block (World.block_lt_of_cell? _ _ hv) hs)).trans hv
theorem bk_slice {w : World} {base : Nat} {e : TypeId} {sz : Nat} {v : Value} {n : Nat} {xs : List Value} (h : w.ownsRow base e sz v n xs) :
    ∃ a cap, v = .slice a n cap ∧ n ≤ cap ∧ cap ≤ maxLen ∧ (0 < n → ∃ g, a = some ⟨g, 0, none⟩) := by
  rcases h.2 with ⟨rfl, rfl⟩ | ⟨g, cap, cur, rfl, hg, hh, hn, hcap, _⟩
  · exact ⟨none, 0, rfl, Nat.le_refl _, by simp [maxLen], fun h => by omega⟩
  · exact ⟨some ⟨g, 0, none⟩, cap, rfl, hn, hcap, fun _ => ⟨g, rfl⟩⟩
theorem bk_add (g o j : Nat) : (⟨g, o, none⟩ : Addr).add j = ⟨g, o + j, none⟩ := by simp [Addr.add]
theorem bk_new (w : World) (o : Obj) : (w.alloc o).heap[w.heap.size]? = some o := by show (w.heap.push o)[w.heap.size]? = _; simp
/-- Which block is whose. -/
abbrev BOwn := Nat → Option (Nat × Nat)
def Mine (own : BOwn) (r : Nat × Nat) (v : Value) : Prop := ∀ g, v.ownBlock = some g → own g = some r
theorem mine_nil (own : BOwn) (r : Nat × Nat) : Mine own r (.slice none 0 0) := fun g e => by simp [Value.ownBlock] at e

/-- A step: only blocks of these roles are written; roles stay; new roles are of new blocks. -/
structure OStep (R : Nat × Nat → Prop) (w : World) (own : BOwn) (w' : World) (own' : BOwn) : Prop where
  chg : Chg (fun g => ∃ r, own g = some r ∧ R r) w w'
  keep : ∀ g r, own g = some r → own' g = some r
  new : ∀ g r, own' g = some r → own g = some r ∨ (w.heap.size ≤ g ∧ R r)
  lt : ∀ g r, own' g = some r → g < w'.heap.size
theorem OStep.refl (R : Nat × Nat → Prop) {w : World} {own : BOwn} (h : ∀ g r, own g = some r → g < w.heap.size) : OStep R w own w own := ⟨Chg.refl _ _, fun _ _ h => h, fun _ _ h => .inl h, h⟩
theorem OStep.of0 {R : Nat × Nat → Prop} {w w' : World} {own : BOwn} (h : ∀ g r, own g = some r → g < w.heap.size) (hc : Chg (fun _ => False) w w') : OStep R w own w' own :=
  ⟨hc.mono (fun _ f => f.elim), fun _ _ h => h, fun _ _ h => .inl h, fun g r e => Nat.lt_of_lt_of_le (h g r e) hc.size⟩
theorem OStep.trans {R : Nat × Nat → Prop} {w1 w2 w3 : World} {o1 o2 o3 : BOwn} (h : OStep R w1 o1 w2 o2) (k : OStep R w2 o2 w3 o3) : OStep R w1 o1 w3 o3 :=
  ⟨h.chg.trans k.chg (fun x ⟨r, e, hr⟩ => (h.new x r e).imp (fun e => ⟨r, e, hr⟩) (fun e => e.1)), fun g r e => k.keep g r (h.keep g r e),
   fun g r e => by
    rcases k.new g r e with e | ⟨e, hr⟩
    · exact h.new g r e
    · exact .inr ⟨Nat.le_trans h.chg.size e, hr⟩, k.lt⟩
theorem OStep.mono {R R' : Nat × Nat → Prop} {w w' : World} {own own' : BOwn} (h : OStep R w own w' own') (hr : ∀ r, R r → R' r) : OStep R' w own w' own' :=
  ⟨h.chg.mono (fun _ ⟨r, e, h⟩ => ⟨r, e, hr r h⟩), h.keep, fun g r e => (h.new g r e).imp id (fun e => ⟨e.1, hr r e.2⟩), h.lt⟩
theorem Mine.step {R : Nat × Nat → Prop} {w w' : World} {own own' : BOwn} {r : Nat × Nat} {v : Value} (h : Mine own r v) (k : OStep R w own w' own') : Mine own' r v := fun g e => k.keep g r (h g e)
/-- A row of another role stays. -/
theorem row_step {R : Nat × Nat → Prop} {w w' : World} {own own' : BOwn} {base : Nat} {e : TypeId} {sz n : Nat} {v : Value} {xs : List Value} {r : Nat × Nat} (h : w.ownsRow base e sz v n xs) (hm : Mine own r v) (hr : ¬ R r) (k : OStep R w own w' own') :
    w'.ownsRow base e sz v n xs :=
  ownsRow_chg h k.chg (fun g eg ⟨r', e1, e2⟩ => by rw [hm g eg] at e1; cases e1; exact hr e2)
/-- A block of no role stays. -/
theorem free_step {R : Nat × Nat → Prop} {w w' : World} {own own' : BOwn} (k : OStep R w own w' own') {g : Nat} (hg : g < w.heap.size) (hn : own g = none) : own' g = none ∧ w'.heap[g]? = w.heap[g]? :=
  ⟨by
    cases e : own' g with
    | none => rfl
    | some r =>
      rcases k.new g r e with e2 | ⟨e2, _⟩
      · rw [hn] at e2; cases e2
      · omega, k.chg.block g hg (fun ⟨r, e, _⟩ => by rw [hn] at e; cases e)⟩
/-- One cell of a block of that role written. -/
theorem OStep.set {R : Nat × Nat → Prop} {w : World} {own : BOwn} (h : ∀ g r, own g = some r → g < w.heap.size) {g o : Nat} {r : Nat × Nat} (hg : own g = some r) (hr : R r) (u : Value) : OStep R w own (w.setCell ⟨g, o, none⟩ u) own :=
  ⟨(Chg.refl _ w).setCell (p := ⟨g, o, none⟩) (.inl ⟨r, hg, hr⟩) u, fun _ _ h => h, fun _ _ h => .inl h, fun g' r' e => by have := h g' r' e; simpa [World.setCell] using this⟩
theorem OStep.drew {R : Nat × Nat → Prop} {w w' : World} {own own' : BOwn} (h : OStep R w own w' own') : OStep R w own w'.drew own' := ⟨h.chg.drew, h.keep, h.new, h.lt⟩
theorem OStep.drewN {R : Nat × Nat → Prop} {w w' : World} {own own' : BOwn} (h : OStep R w own w' own') (n : Nat) : OStep R w own (w'.drewN n) own' := ⟨h.chg.drewN n, h.keep, h.new, h.lt⟩
/-- A role for a new block. -/
def give (own : BOwn) (g : Nat) (r : Nat × Nat) : BOwn := fun x => if x = g then some r else own x
theorem give_same (own : BOwn) (g : Nat) (r : Nat × Nat) : give own g r g = some r := by unfold give; rw [if_pos rfl]
theorem give_other {own : BOwn} {g x : Nat} {r : Nat × Nat} (h : x ≠ g) : give own g r x = own x := by unfold give; rw [if_neg h]
theorem OStep.give {R : Nat × Nat → Prop} {w w' : World} {own : BOwn} (hlt : ∀ g r, own g = some r → g < w.heap.size) {g : Nat} {r : Nat × Nat} (hg : w.heap.size ≤ g) (hg' : g < w'.heap.size) (hr : R r) (hc : Chg (fun g => ∃ r, own g = some r ∧ R r) w w') : OStep R w own w' (give own g r) :=
  ⟨hc, fun x q e => by rw [give_other (by have := hlt x q e; omega)]; exact e, fun x q e => by
    by_cases hx : x = g
    · subst hx; rw [give_same] at e; cases e; exact .inr ⟨hg, hr⟩
    · rw [give_other hx] at e; exact .inl e, fun x q e => by
    by_cases hx : x = g
    · subst hx; exact hg'
    · rw [give_other hx] at e; have := hlt x q e; have := hc.size; omega⟩

theorem own_form {w : World} {base : Nat} {e : TypeId} {sz n : Nat} {v : Value} {xs : List Value} (h : w.ownsRow base e sz v n xs) : (v = .slice none 0 0 ∧ n = 0 ∧ xs = []) ∨ ∃ g cap cs, v = .slice (some ⟨g, 0, none⟩) n cap ∧ n ≤ cap ∧ w.heap[g]? = some (.cells cs e) := by
  rcases h.2 with ⟨e1, e2⟩ | ⟨g, cap, cur, e1, _, hh, hn, _⟩
  · exact .inl ⟨e1, e2, by have := h.1; rw [e2] at this; exact List.eq_nil_of_length_eq_zero (by simpa using this)⟩
  · exact .inr ⟨g, cap, cur, e1, hn, hh⟩

/-- A row grown: the elder slice still shows what it showed; the grown one is of the same role. -/
theorem grow_run (P : Program) (w : World) (t ty e : TypeId) (i : TypeInfo) (z : Value) (sz bytes : Nat) (ht : P.underlying t = some (.slice e)) (hi : P.info? e = some i) (hz : i.zero = some z)
    (hsize : i.size = sz) (hby : i.bytes = bytes) (hzs : z.cells.size = sz) (hsz : 0 < sz) (own : BOwn) (hlt : ∀ g r, own g = some r → g < w.heap.size) (r : Nat × Nat) (R : Nat × Nat → Prop) (hR : R r)
    (v : Value) (n : Nat) (xs : List Value) (hown : w.ownsRow 0 e sz v n xs) (hm : Mine own r v) (m : Nat) (c : Nat)
    (ad : Addr) (news : List Value) (hl : news.length = m * sz) (hnews : ∀ j u, news[j]? = some u → w.cell? (ad.add j) = some u) (h1 : ∀ u ∈ news, u.oneCell' = true) (hm0 : 0 < m) (h63 : n + m ≤ maxLen) (hbytes : (n + m) * bytes ≤ 140737488355328) :
    ∃ g cap w' own', (Builtin.append_ #[t, t] ty #[v, .slice (some ad) m c]).run P w = .ok (.slice (some ⟨g, 0, none⟩) (n + m) cap) w' ∧ w'.ownsRow 0 e sz (.slice (some ⟨g, 0, none⟩) (n + m) cap) (n + m) (xs ++ news) ∧
      own' g = some r ∧ OStep R w own w' own' ∧
      ∀ (n2 : Nat) (v2 : Value) (xs2 : List Value), w.ownsRow 0 e sz v2 n2 xs2 → Mine own r v2 → (∀ g, v2.ownBlock = some g → v.ownBlock = some g → n2 ≤ n) → w'.ownsRow 0 e sz v2 n2 xs2 := by
  rcases own_form hown with ⟨rfl, rfl, rfl⟩ | ⟨g, cap, cs, rfl, hcap, hh⟩
  · -- nil: a new block
    obtain ⟨v', w', hr, h2, h3, h4, h5⟩ := run_append_own_at (P := P) w 0 t ty e i z sz bytes ht hi hz hsize hby hzs hsz (.slice none 0 0) 0 [] hown ad m c news hl hnews h1 h63 hbytes (Nat.zero_le _)
    obtain ⟨g, cap, rfl, _, hg⟩ := h2.form (by omega)
    have hg2 : g = w.heap.size := by
      rcases h5 with h5 | h5
      · simp [Value.ownBlock] at h5
      · simpa [Value.ownBlock] using h5
    have hc0 : Chg (fun _ => False) w w' := (Chg.refl _ w).grown h3 (fun k e => by simp [Value.ownBlock] at e)
    exact ⟨g, cap, w', give own g r, hr, h2, give_same _ _ _, OStep.give hlt (by omega) hg hR (hc0.mono (fun _ f => f.elim)), fun n2 v2 xs2 hv2 _ _ => ownsRow_chg hv2 hc0 (fun _ _ f => f)⟩
  · by_cases hroom : n + m ≤ cap
    · obtain ⟨w', hr, h2, h3⟩ := run_append_own_spare (P := P) w 0 t ty e i sz ht hi hsize g n cap xs hown ad m c news hl hnews h1 hroom
      have hgr : own g = some r := hm g rfl
      have hcg : Chg (fun x => x = g) w w' := (Chg.refl (fun x => x = g) w).grown h3 (fun k e => .inl (by simpa [eq_comm] using e))
      refine ⟨g, cap, w', own, hr, h2, hgr, ⟨hcg.mono (fun x e => ⟨r, by rw [e]; exact hgr, hR⟩), fun _ _ h => h, fun _ _ h => .inl h, fun g' r' e => Nat.lt_of_lt_of_le (hlt g' r' e) hcg.size⟩, fun n2 v2 xs2 hv2 hm2 hle => ?_⟩
      by_cases hb : v2.ownBlock = some g
      · rcases own_form hv2 with ⟨e2, _⟩ | ⟨g2, cap2, cs2, rfl, hcap2, hh2⟩
        · rw [e2] at hb; simp [Value.ownBlock] at hb
        · simp only [Value.ownBlock, Option.some.injEq] at hb
          subst hb
          have hn2 := hle g2 rfl rfl
          -- the same block: a shorter slice of it
          rcases h2.2 with ⟨e0, _⟩ | ⟨g3, cap3, cur3, e3, hb3, hh3, hn3, hcm3, hs3, htk3⟩
          · cases e0
          · cases e3
            rcases hown.2 with ⟨e0, _⟩ | ⟨g4, cap4, cur4, e4, hb4, hh4, hn4, hcm4, hs4, htk4⟩
            · cases e0
            · cases e4
              rcases hv2.2 with ⟨e0, _⟩ | ⟨g5, cap5, cur5, e5, hb5, hh5, hn5, hcm5, hs5, htk5⟩
              · cases e0
              · cases e5
                rw [hh4] at hh5
                injection hh5 with hh5
                injection hh5 with hcur
                subst hcur
                have hcc := Nat.eq_of_mul_eq_mul_right hsz (hs4.symm.trans hs5)
                subst hcc
                refine ⟨hv2.1, .inr ⟨_, _, cur3, rfl, hb5, hh3, hn5, hcm5, hs3, ?_⟩⟩
                have hle2 : n2 * sz ≤ n * sz := Nat.mul_le_mul_right _ hn2
                have hle3 : n * sz ≤ (n + m) * sz := Nat.mul_le_mul_right _ (by omega)
                have e6 : cur3.toList.take (n2 * sz) = (xs ++ news).take (n2 * sz) := by rw [← htk3, List.take_take, Nat.min_eq_left (by omega)]
                have e7 : xs.take (n2 * sz) = xs2 := by rw [← htk4, List.take_take, Nat.min_eq_left hle2, htk5]
                rw [e6, List.take_append_of_le_length (by rw [hown.1]; exact hle2), e7]
      · exact ownsRow_chg hv2 hcg (fun x e1 e2 => hb (by rw [e1, e2]))
    · obtain ⟨v', w', hr, h2, h3⟩ := run_append_arg_grows (P := P) w t ty e i z sz bytes ht hi hz hsize hby hzs hsz ⟨g, 0, none⟩ n cap xs hown.1 (hown.cells rfl) ad m c news hl hnews (by omega) h63 hbytes
      obtain ⟨g2, cap2, rfl, hge, hg2⟩ := h2.form (by omega)
      have hc0 : Chg (fun _ => False) w w' := (Chg.refl _ w).grown h3 (fun k e => by cases e)
      exact ⟨g2, cap2, w', give own g2 r, hr, ⟨h2.1, h2.2.imp id (fun ⟨g, cap, cur, e, _, r⟩ => ⟨g, cap, cur, e, Nat.zero_le _, r⟩)⟩, give_same _ _ _, OStep.give hlt hge hg2 hR (hc0.mono (fun _ f => f.elim)), fun n2 v2 xs2 hv2 _ _ => ownsRow_chg hv2 hc0 (fun _ _ f => f)⟩

/-- The same at a step of a region that draws its order. -/
theorem step_grow {P : Program} {w : World} {ops : Array Oper} {o : Oper} {a : Act} {K : Act → World → Prop} {Q : Exit → Act → World → Prop} {E : Prop} (hgd : o.guard = none) (s x : Operand) (t : TypeId)
    (ho : o.op = .call { callee := .builtin .append, args := #[s, x], argTypes := #[t, t] }) (e : TypeId) (i : TypeInfo) (z : Value) (sz bytes : Nat) (ht : P.underlying t = some (.slice e)) (hi : P.info? e = some i) (hz : i.zero = some z)
    (hsize : i.size = sz) (hby : i.bytes = bytes) (hzs : z.cells.size = sz) (hsz : 0 < sz) (own : BOwn) (hlt : ∀ g r, own g = some r → g < w.heap.size) (r : Nat × Nat) (R : Nat × Nat → Prop) (hR : R r)
    (v : Value) (n : Nat) (xs : List Value) (hs : a.eval s = v) (hown : w.ownsRow 0 e sz v n xs) (hm : Mine own r v) (m : Nat) (c : Nat)
    (ad : Addr) (news : List Value) (hx : a.eval x = .slice (some ad) m c) (hl : news.length = m * sz) (hnews : ∀ j u, news[j]? = some u → w.cell? (ad.add j) = some u) (h1 : ∀ u ∈ news, u.oneCell' = true) (hm0 : 0 < m) (h63 : n + m ≤ maxLen) (hbytes : (n + m) * bytes ≤ 140737488355328)
    (h : ∀ g cap w' own', w'.ownsRow 0 e sz (.slice (some ⟨g, 0, none⟩) (n + m) cap) (n + m) (xs ++ news) → own' g = some r → OStep R w own w' own' →
      (∀ (n2 : Nat) (v2 : Value) (xs2 : List Value), w.ownsRow 0 e sz v2 n2 xs2 → Mine own r v2 → (∀ g, v2.ownBlock = some g → v.ownBlock = some g → n2 ≤ n) → w'.ownsRow 0 e sz v2 n2 xs2) → K (a.put o.dst (.slice (some ⟨g, 0, none⟩) (n + m) cap)) w') :
    if Region.wanted o (yielded ops a.tmps) = true then Oper.wp P o a w K Q else E := by
  obtain ⟨g, cap, w', own', hr, h2, h3, h4, h5⟩ := grow_run P w t o.type e i z sz bytes ht hi hz hsize hby hzs hsz own hlt r R hR v n xs hown hm m c ad news hl hnews h1 hm0 h63 hbytes
  have hw : Region.wanted o (yielded ops a.tmps) = true := by simp [Region.wanted, hgd]
  rw [if_pos hw]
  exact Lib.wp_append_run w s x t t ho v (.slice (some ad) m c) hs hx _ w' hr (h g cap w' own' h2 h3 h4 h5)

/-- The same at a plain region's list. -/
theorem list_grow {P : Program} {w : World} {ops : Array Oper} {rest : List Oper} {o : Oper} {a : Act} {Q : Exit → Act → World → Prop} (hgd : o.guard = none) (s x : Operand) (t : TypeId)
    (ho : o.op = .call { callee := .builtin .append, args := #[s, x], argTypes := #[t, t] }) (e : TypeId) (i : TypeInfo) (z : Value) (sz bytes : Nat) (ht : P.underlying t = some (.slice e)) (hi : P.info? e = some i) (hz : i.zero = some z)
    (hsize : i.size = sz) (hby : i.bytes = bytes) (hzs : z.cells.size = sz) (hsz : 0 < sz) (own : BOwn) (hlt : ∀ g r, own g = some r → g < w.heap.size) (r : Nat × Nat) (R : Nat × Nat → Prop) (hR : R r)
    (v : Value) (n : Nat) (xs : List Value) (hs : a.eval s = v) (hown : w.ownsRow 0 e sz v n xs) (hm : Mine own r v) (m : Nat) (c : Nat)
    (ad : Addr) (news : List Value) (hx : a.eval x = .slice (some ad) m c) (hl : news.length = m * sz) (hnews : ∀ j u, news[j]? = some u → w.cell? (ad.add j) = some u) (h1 : ∀ u ∈ news, u.oneCell' = true) (hm0 : 0 < m) (h63 : n + m ≤ maxLen) (hbytes : (n + m) * bytes ≤ 140737488355328)
    (h : ∀ g cap w' own', w'.ownsRow 0 e sz (.slice (some ⟨g, 0, none⟩) (n + m) cap) (n + m) (xs ++ news) → own' g = some r → OStep R w own w' own' →
      wpList P ops Q rest (a.put o.dst (.slice (some ⟨g, 0, none⟩) (n + m) cap)) w') :
    wpList P ops Q (o :: rest) a w := by
  obtain ⟨g, cap, w', own', hr, h2, h3, h4, h5⟩ := grow_run P w t o.type e i z sz bytes ht hi hz hsize hby hzs hsz own hlt r R hR v n xs hown hm m c ad news hl hnews h1 hm0 h63 hbytes
  exact Lib.wpList_append_run w hgd s x t t ho v (.slice (some ad) m c) hs hx _ w' hr (h g cap w' own' h2 h3 h4)

/-- Lists that are kept: list i has the role (ro, i). -/
def Lists (w : World) (own : BOwn) (ro : Nat) (e : TypeId) (sz : Nat) (xs : List (Value × Nat)) (Q : Nat → Nat → List Value → Prop) : Prop :=
  ∀ (i : Nat) x, xs[i]? = some x → ∃ cs, w.ownsRow 0 e sz x.1 x.2 cs ∧ Q i x.2 cs ∧ Mine own (ro, i) x.1
theorem Lists.step {R : Nat × Nat → Prop} {w w' : World} {own own' : BOwn} {ro : Nat} {e : TypeId} {sz : Nat} {xs : List (Value × Nat)} {Q : Nat → Nat → List Value → Prop} (h : Lists w own ro e sz xs Q) (k : OStep R w own w' own') (hr : ∀ i, ¬ R (ro, i)) : Lists w' own' ro e sz xs Q :=
  fun i x hx => by
    obtain ⟨cs, h1, h2, h3⟩ := h i x hx
    exact ⟨cs, row_step h1 h3 (hr i) k, h2, h3.step k⟩
theorem Lists.mono {w : World} {own : BOwn} {ro : Nat} {e : TypeId} {sz : Nat} {xs : List (Value × Nat)} {Q Q' : Nat → Nat → List Value → Prop} (h : Lists w own ro e sz xs Q) (hq : ∀ i x cs, xs[i]? = some x → Q i x.2 cs → Q' i x.2 cs) : Lists w own ro e sz xs Q' :=
  fun i x hx => by
    obtain ⟨cs, h1, h2, h3⟩ := h i x hx
    exact ⟨cs, h1, hq i x cs hx h2, h3⟩

/-- The book: its fields. -/
structure BookF (tb : TypeId) (w : World) (own : BOwn) (b : Nat) (F : Nat → Value) : Prop where
  cells : ∃ cs : Array Value, w.heap[b]? = some (.cells cs tb) ∧ cs.size = 41 ∧ ∀ i, i < 41 → cs[i]? = some (F i)
  role : own b = some (0, 0)
  lt : ∀ g r, own g = some r → g < w.heap.size
theorem BookF.cell {tb : TypeId} {w : World} {own : BOwn} {b : Nat} {F : Nat → Value} (h : BookF tb w own b F) (i : Nat) (hi : i < 41) : w.cell? ⟨b, i, none⟩ = some (F i) := by
  obtain ⟨cs, h1, h2, h3⟩ := h.cells
  rw [cell_of_row w b i cs tb (0, 0) h1]
  exact h3 i hi
theorem BookF.frozen {tb : TypeId} {w : World} {own : BOwn} {b : Nat} {F : Nat → Value} (h : BookF tb w own b F) (i : Nat) : w.frozen? ⟨b, i, none⟩ = false := by
  obtain ⟨cs, h1, h2, h3⟩ := h.cells
  simp [World.frozen?, h1]
theorem BookF.step {R : Nat × Nat → Prop} {tb : TypeId} {w w' : World} {own own' : BOwn} {b : Nat} {F : Nat → Value} (h : BookF tb w own b F) (k : OStep R w own w' own') (hr : ¬ R (0, 0)) : BookF tb w' own' b F := by
  obtain ⟨cs, h1, h2, h3⟩ := h.cells
  exact ⟨⟨cs, k.chg.get h1 (fun ⟨r, e1, e2⟩ => by rw [h.role] at e1; cases e1; exact hr e2), h2, h3⟩, k.keep _ _ h.role, k.lt⟩
def setF (F : Nat → Value) (i : Nat) (v : Value) : Nat → Value := fun j => if j = i then v else F j
theorem setF_same (F : Nat → Value) (i : Nat) (v : Value) : setF F i v i = v := by unfold setF; rw [if_pos rfl]
theorem setF_other {F : Nat → Value} {i j : Nat} {v : Value} (h : j ≠ i) : setF F i v j = F j := by unfold setF; rw [if_neg h]
theorem BookF.set {tb : TypeId} {w : World} {own : BOwn} {b : Nat} {F : Nat → Value} (h : BookF tb w own b F) (i : Nat) (v : Value) (hi : i < 41) : BookF tb (w.setCell ⟨b, i, none⟩ v) own b (setF F i v) := by
  obtain ⟨cs, h1, h2, h3⟩ := h.cells
  refine ⟨⟨cs.setIfInBounds i v, heap_setCell_same v h1, by simpa using h2, fun j hj => ?_⟩, h.role, fun g r e => by have := h.lt g r e; simpa [World.setCell] using this⟩
  rw [Array.getElem?_setIfInBounds]
  by_cases e : i = j
  · subst e; rw [if_pos rfl, if_pos (by omega), setF_same]
  · rw [if_neg e, setF_other (Ne.symm e)]; exact h3 j hj

/-- The row of the lists. -/
structure RowK (w : World) (own : BOwn) (tl : TypeId) (rk : Nat) (rv : Value) (xs : List (Value × Nat)) : Prop where
  row : w.ownsRow 0 tl 1 rv xs.length (xs.map (·.1))
  mine : Mine own (1, rk) rv
theorem RowK.step {R : Nat × Nat → Prop} {w w' : World} {own own' : BOwn} {tl : TypeId} {rk : Nat} {rv : Value} {xs : List (Value × Nat)} (h : RowK w own tl rk rv xs) (k : OStep R w own w' own') (hr : ¬ R (1, rk)) : RowK w' own' tl rk rv xs :=
  ⟨row_step h.row h.mine hr k, h.mine.step k⟩
theorem RowK.shape {w : World} {own : BOwn} {tl : TypeId} {rk : Nat} {rv : Value} {xs : List (Value × Nat)} (h : RowK w own tl rk rv xs) : ∃ a cap, rv = .slice a xs.length cap := by
  rcases own_form h.row with ⟨e, e2, _⟩ | ⟨g, cap, cs, e, _⟩
  · exact ⟨none, 0, by rw [e, e2]⟩
  · exact ⟨_, _, e⟩
theorem RowK.at' {w : World} {own : BOwn} {tl : TypeId} {rk : Nat} {rv : Value} {xs : List (Value × Nat)} (h : RowK w own tl rk rv xs) {i : Nat} {x : Value × Nat} (hx : xs[i]? = some x) :
    ∃ g cap, rv = .slice (some ⟨g, 0, none⟩) xs.length cap ∧ own g = some (1, rk) ∧ w.cell? ⟨g, i, none⟩ = some x.1 ∧ w.frozen? ⟨g, i, none⟩ = false := by
  have hlt := (List.getElem?_eq_some_iff.1 hx).1
  obtain ⟨g, cap, rfl, _, _⟩ := h.row.form (by omega)
  have hc := h.row.cells rfl i x.1 (by rw [List.getElem?_map, hx]; rfl)
  have e : (⟨g, 0, none⟩ : Addr).add i = ⟨g, i, none⟩ := by unfold Addr.add; split <;> simp_all
  rw [e] at hc
  exact ⟨g, cap, rfl, h.mine g rfl, hc, h.row.frozenAt i⟩
theorem row_nil (w : World) (own : BOwn) (tl : TypeId) (rk : Nat) : RowK w own tl rk (.slice none 0 0) [] := ⟨World.ownsRow_nil _ _ _ _, mine_nil _ _⟩
theorem Lists.nil (w : World) (own : BOwn) (ro : Nat) (e : TypeId) (sz : Nat) (Q : Nat → Nat → List Value → Prop) : Lists w own ro e sz [] Q := fun i x h => by simp at h

/-- A role for the block of a value that has none. -/
def giveV (own : BOwn) (v : Value) (r : Nat × Nat) : BOwn := fun x => if v.ownBlock = some x then some r else own x
theorem giveV_keep {own : BOwn} {v : Value} {r : Nat × Nat} (h : ∀ g, v.ownBlock = some g → own g = none) : ∀ g q, own g = some q → giveV own v r g = some q := fun g q e => by
  unfold giveV
  rw [if_neg (fun e2 => by have := h g e2; rw [e] at this; cases this)]
  exact e
theorem giveV_mine (own : BOwn) (v : Value) (r : Nat × Nat) : Mine (giveV own v r) r v := fun g e => by unfold giveV; rw [if_pos e]
theorem giveV_new {own : BOwn} {v : Value} {r : Nat × Nat} {g : Nat} {q : Nat × Nat} (h : giveV own v r g = some q) : own g = some q ∨ v.ownBlock = some g := by
  unfold giveV at h
  split at h
  · rename_i e; exact .inr e
  · exact .inl h
theorem Mine.more {own own' : BOwn} {r : Nat × Nat} {v : Value} (h : Mine own r v) (hk : ∀ g q, own g = some q → own' g = some q) : Mine own' r v := fun g e => hk g r (h g e)
theorem RowK.more {w : World} {own own' : BOwn} {tl : TypeId} {rk : Nat} {rv : Value} {xs : List (Value × Nat)} (h : RowK w own tl rk rv xs) (hk : ∀ g q, own g = some q → own' g = some q) : RowK w own' tl rk rv xs := ⟨h.row, h.mine.more hk⟩
theorem BookF.more {tb : TypeId} {w : World} {own own' : BOwn} {b : Nat} {F : Nat → Value} (h : BookF tb w own b F) (hk : ∀ g q, own g = some q → own' g = some q) (hlt : ∀ g r, own' g = some r → g < w.heap.size) : BookF tb w own' b F := ⟨h.cells, hk _ _ h.role, hlt⟩
/-- What a keeping does: only the book and its rows are written; roles stay; new roles are of new blocks, or of v's. -/
structure KStep (R : Nat × Nat → Prop) (v : Value) (w : World) (own : BOwn) (w' : World) (own' : BOwn) : Prop where
  chg : Chg (fun g => ∃ r, own g = some r ∧ R r) w w'
  keep : ∀ g r, own g = some r → own' g = some r
  new : ∀ g r, own' g = some r → own g = some r ∨ w.heap.size ≤ g ∨ v.ownBlock = some g
end Go.Proofs.YtckioocahmbhkaaGreatDoor
