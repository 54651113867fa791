/- A life as it lies in memory; what may change. -/
import Derived.Test.YtipclbibomemjaaN1
import Derived.Test.YtipclbibomemjaaQ1
namespace Go.Proofs.Ytipclbibomemjaa
open Go Go.RowKit Go.Maps

structure LD where
  P : PS
  mine : List Int
  fs : List Int
  ss : List Int
  pn : List Int
  ver : Int
abbrev OwnR := Nat → Option Nat
structure OStep (w : World) (own : OwnR) (w' : World) (own' : OwnR) : Prop where
  chg : Chg (fun k => own k ≠ none) w w'
  le : ∀ k r, own k = some r → own' k = some r
  sub : ∀ k, own' k ≠ none → own k ≠ none ∨ w.heap.size ≤ k
theorem OStep.refl (w : World) (own : OwnR) : OStep w own w own := ⟨Chg.refl _ _, fun _ _ h => h, fun _ h => .inl h⟩
theorem OStep.trans {w w' w'' : World} {own own' own'' : OwnR} (h : OStep w own w' own') (k : OStep w' own' w'' own'') : OStep w own w'' own'' :=
  ⟨h.chg.trans k.chg (fun x e => h.sub x e), fun x r e => k.le x r (h.le x r e), fun x e => (k.sub x e).elim (h.sub x) (fun e => .inr (Nat.le_trans h.chg.size e))⟩
theorem OStep.of0 {w w' : World} (own : OwnR) (h : Chg (fun _ => False) w w') : OStep w own w' own := ⟨h.mono (fun _ f => f.elim), fun _ _ h => h, fun _ h => .inl h⟩
theorem OStep.of {w w' : World} {own : OwnR} {S : Nat → Prop} (h : Chg S w w') (hs : ∀ k, S k → own k ≠ none) : OStep w own w' own := ⟨h.mono hs, fun _ _ h => h, fun _ h => .inl h⟩

/-- A list that is not the life's. -/
structure Kept (w : World) (own : OwnR) (v : Value) (zs : List Int) : Prop where
  sees : SeesI w v zs
  far : ∀ ad n c, v = .slice (some ad) n c → zs ≠ [] → own ad.block = none ∧ ad.block < w.heap.size
theorem Kept.step {w w' : World} {own own' : OwnR} {v : Value} {zs : List Int} (h : Kept w own v zs) (hs : OStep w own w' own') : Kept w' own' v zs := by
  refine ⟨h.sees.chg hs.chg (fun ad n c e hne f => f (h.far ad n c e hne).1), fun ad n c e hne => ?_⟩
  obtain ⟨h1, h2⟩ := h.far ad n c e hne
  refine ⟨?_, Nat.lt_of_lt_of_le h2 hs.chg.size⟩
  cases ho : own' ad.block with
  | none => rfl
  | some r =>
    rcases hs.sub ad.block (by rw [ho]; simp) with e2 | e2
    · exact (e2 h1).elim
    · omega

structure LifeF (w : World) (own : OwnR) (xb pb m1 m2 : Nat) (D : LD) (mv fv sv pv : Value) : Prop where
  blk : w.heap[xb]? = some (.cells #[.pointer (some ⟨pb, 0, none⟩), mv, fv, sv, pv, .int .i64 D.ver] 42)
  pool : PoolF w pb m1 m2 D.P
  mine : w.ownsRow 0 3 1 mv D.mine.length (D.mine.map (Value.int .i64))
  free : w.ownsRow 0 3 1 fv D.fs.length (D.fs.map (Value.int .i64))
  since : w.ownsRow 0 3 1 sv D.ss.length (D.ss.map (Value.int .i64))
  pins : w.ownsRow 0 3 1 pv D.pn.length (D.pn.map (Value.int .i64))
  r0 : own xb = some 0
  r1 : own pb = some 1
  r2 : own m1 = some 2
  r3 : own m2 = some 3
  rm : ∀ g, mv.ownBlock = some g → own g = some 4
  rf : ∀ g, fv.ownBlock = some g → own g = some 5
  rs : ∀ g, sv.ownBlock = some g → own g = some 6
  rp : ∀ g, pv.ownBlock = some g → own g = some 7
  lt : ∀ k, own k ≠ none → k < w.heap.size

theorem LifeF.chg {w w' : World} {own : OwnR} {xb pb m1 m2 : Nat} {D : LD} {mv fv sv pv : Value} {S : Nat → Prop} (h : LifeF w own xb pb m1 m2 D mv fv sv pv) (hc : Chg S w w') (hs : ∀ k, S k → own k = none) : LifeF w' own xb pb m1 m2 D mv fv sv pv := by
  have key : ∀ k r, own k = some r → ¬ S k := fun k r e f => by rw [hs k f] at e; cases e
  exact ⟨hc.get h.blk (key _ _ h.r0), h.pool.chg hc (key _ _ h.r1) (key _ _ h.r2) (key _ _ h.r3), ownsRow_chg h.mine hc (fun g e => key _ _ (h.rm g e)), ownsRow_chg h.free hc (fun g e => key _ _ (h.rf g e)), ownsRow_chg h.since hc (fun g e => key _ _ (h.rs g e)), ownsRow_chg h.pins hc (fun g e => key _ _ (h.rp g e)), h.r0, h.r1, h.r2, h.r3, h.rm, h.rf, h.rs, h.rp, fun k e => Nat.lt_of_lt_of_le (h.lt k e) hc.size⟩
theorem LifeF.chg0 {w w' : World} {own : OwnR} {xb pb m1 m2 : Nat} {D : LD} {mv fv sv pv : Value} (h : LifeF w own xb pb m1 m2 D mv fv sv pv) (hc : Chg (fun _ => False) w w') : LifeF w' own xb pb m1 m2 D mv fv sv pv := h.chg hc (fun _ f => f.elim)
theorem LifeF.cells {w : World} {own : OwnR} {xb pb m1 m2 : Nat} {D : LD} {mv fv sv pv : Value} (h : LifeF w own xb pb m1 m2 D mv fv sv pv) : w.cell? ⟨xb, 0, none⟩ = some (.pointer (some ⟨pb, 0, none⟩)) ∧ w.cell? ⟨xb, 1, none⟩ = some mv ∧ w.cell? ⟨xb, 2, none⟩ = some fv ∧ w.cell? ⟨xb, 3, none⟩ = some sv ∧ w.cell? ⟨xb, 4, none⟩ = some pv ∧ w.cell? ⟨xb, 5, none⟩ = some (.int .i64 D.ver) ∧ ∀ i, w.frozen? ⟨xb, i, none⟩ = false := by
  refine ⟨?_, ?_, ?_, ?_, ?_, ?_, fun i => by simp [World.frozen?, h.blk]⟩ <;> simp [World.cell?, h.blk]

/-- The pool's own work. -/
theorem LifeF.work {w w' : World} {own : OwnR} {xb pb m1 m2 : Nat} {D : LD} {mv fv sv pv : Value} {S : Nat → Prop} {P' : PS} (h : LifeF w own xb pb m1 m2 D mv fv sv pv) (hp : PoolF w' pb m1 m2 P') (hc : Chg S w w') (hs : ∀ k, S k → k = pb ∨ k = m1 ∨ k = m2) : LifeF w' own xb pb m1 m2 { D with P := P' } mv fv sv pv ∧ OStep w own w' own := by
  have key : ∀ k r, own k = some r → r ≠ 1 → r ≠ 2 → r ≠ 3 → ¬ S k := fun k r e n1 n2 n3 f => by
    rcases hs k f with e2 | e2 | e2
    · rw [e2, h.r1] at e; cases e; exact n1 rfl
    · rw [e2, h.r2] at e; cases e; exact n2 rfl
    · rw [e2, h.r3] at e; cases e; exact n3 rfl
  refine ⟨⟨hc.get h.blk (key _ _ h.r0 (by omega) (by omega) (by omega)), hp, ownsRow_chg h.mine hc (fun g e => key _ _ (h.rm g e) (by omega) (by omega) (by omega)), ownsRow_chg h.free hc (fun g e => key _ _ (h.rf g e) (by omega) (by omega) (by omega)), ownsRow_chg h.since hc (fun g e => key _ _ (h.rs g e) (by omega) (by omega) (by omega)), ownsRow_chg h.pins hc (fun g e => key _ _ (h.rp g e) (by omega) (by omega) (by omega)), h.r0, h.r1, h.r2, h.r3, h.rm, h.rf, h.rs, h.rp, fun k e => Nat.lt_of_lt_of_le (h.lt k e) hc.size⟩, OStep.of hc (fun k e => ?_)⟩
  rcases hs k e with e2 | e2 | e2
  · rw [e2, h.r1]; simp
  · rw [e2, h.r2]; simp
  · rw [e2, h.r3]; simp
theorem LifeF.setVer {w : World} {own : OwnR} {xb pb m1 m2 : Nat} {D : LD} {mv fv sv pv : Value} (h : LifeF w own xb pb m1 m2 D mv fv sv pv) (x : Int) : LifeF (w.setCell ⟨xb, 5, none⟩ (.int .i64 x)) own xb pb m1 m2 { D with ver := x } mv fv sv pv ∧ OStep w own (w.setCell ⟨xb, 5, none⟩ (.int .i64 x)) own := by
  have hc : Chg (fun k => k = xb) w (w.setCell ⟨xb, 5, none⟩ (.int .i64 x)) := chg1 _
  have key : ∀ k r, own k = some r → r ≠ 0 → ¬ k = xb := fun k r e n f => by rw [f, h.r0] at e; cases e; exact n rfl
  exact ⟨⟨by rw [heap_setCell_same _ h.blk]; rfl, h.pool.chg hc (key _ _ h.r1 (by omega)) (key _ _ h.r2 (by omega)) (key _ _ h.r3 (by omega)), ownsRow_chg h.mine hc (fun g e => key _ _ (h.rm g e) (by omega)), ownsRow_chg h.free hc (fun g e => key _ _ (h.rf g e) (by omega)), ownsRow_chg h.since hc (fun g e => key _ _ (h.rs g e) (by omega)), ownsRow_chg h.pins hc (fun g e => key _ _ (h.rp g e) (by omega)), h.r0, h.r1, h.r2, h.r3, h.rm, h.rf, h.rs, h.rp, fun k e => Nat.lt_of_lt_of_le (h.lt k e) hc.size⟩, OStep.of hc (fun k e => by have e2 : k = xb := e; rw [e2, h.r0]; simp)⟩

def ownSet (own : OwnR) (v : Value) (r : Nat) : OwnR := fun k => if v.ownBlock = some k then some r else own k
theorem ownSet_le {w : World} {own : OwnR} {v : Value} {r : Nat} (hlt : ∀ k, own k ≠ none → k < w.heap.size) (hv : ∀ g, v.ownBlock = some g → own g = some r ∨ w.heap.size ≤ g) (k s : Nat) (h : own k = some s) : ownSet own v r k = some s := by
  unfold ownSet
  by_cases e : v.ownBlock = some k
  · rw [if_pos e]
    rcases hv k e with e2 | e2
    · rw [h] at e2; exact e2.symm
    · have := hlt k (by rw [h]; simp); omega
  · rw [if_neg e, h]
theorem ownSet_sub {w : World} {own : OwnR} {v : Value} {r : Nat} (hv : ∀ g, v.ownBlock = some g → own g = some r ∨ w.heap.size ≤ g) (k : Nat) (h : ownSet own v r k ≠ none) : own k ≠ none ∨ w.heap.size ≤ k := by
  unfold ownSet at h
  by_cases e : v.ownBlock = some k
  · exact (hv k e).imp (fun e => by rw [e]; simp) id
  · rw [if_neg e] at h; exact .inl h
theorem ownSet_at {own : OwnR} {v : Value} {r g : Nat} (h : v.ownBlock = some g) : ownSet own v r g = some r := by unfold ownSet; rw [if_pos h]

theorem LifeF.set_mine {w w1 : World} {own : OwnR} {xb pb m1 m2 : Nat} {D : LD} {mv fv sv pv v' : Value} {zs : List Int} {S : Nat → Prop} (h : LifeF w own xb pb m1 m2 D mv fv sv pv) (hc : Chg S w w1) (hs : ∀ k, S k → own k = some 4) (hr : w1.ownsRow 0 3 1 v' zs.length (zs.map (Value.int .i64))) (hv : ∀ g, v'.ownBlock = some g → own g = some 4 ∨ w.heap.size ≤ g) :
    LifeF (w1.setCell ⟨xb, 1, none⟩ v') (ownSet own v' 4) xb pb m1 m2 { D with mine := zs } v' fv sv pv ∧ OStep w own (w1.setCell ⟨xb, 1, none⟩ v') (ownSet own v' 4) := by
  have hc2 : Chg (fun k => k = xb) w1 (w1.setCell ⟨xb, 1, none⟩ v') := chg1 _
  have key : ∀ k r, own k = some r → r ≠ 4 → ¬ S k := fun k r e n f => by rw [hs k f] at e; cases e; exact n rfl
  have keyx : ∀ k r, own k = some r → r ≠ 0 → ¬ k = xb := fun k r e n f => by rw [f, h.r0] at e; cases e; exact n rfl
  have le := ownSet_le (w := w) (own := own) (v := v') (r := 4) h.lt hv
  have hxs : xb < w.heap.size := h.lt xb (by rw [h.r0]; simp)
  refine ⟨⟨by rw [heap_setCell_same _ (hc.get h.blk (key _ _ h.r0 (by omega)))]; rfl, (h.pool.chg hc (key _ _ h.r1 (by omega)) (key _ _ h.r2 (by omega)) (key _ _ h.r3 (by omega))).chg hc2 (keyx _ _ h.r1 (by omega)) (keyx _ _ h.r2 (by omega)) (keyx _ _ h.r3 (by omega)), ownsRow_chg hr hc2 (fun g e => ?_), ownsRow_chg (ownsRow_chg h.free hc (fun g e => key _ _ (h.rf g e) (by omega))) hc2 (fun g e => keyx _ _ (h.rf g e) (by omega)), ownsRow_chg (ownsRow_chg h.since hc (fun g e => key _ _ (h.rs g e) (by omega))) hc2 (fun g e => keyx _ _ (h.rs g e) (by omega)), ownsRow_chg (ownsRow_chg h.pins hc (fun g e => key _ _ (h.rp g e) (by omega))) hc2 (fun g e => keyx _ _ (h.rp g e) (by omega)), le _ _ h.r0, le _ _ h.r1, le _ _ h.r2, le _ _ h.r3, fun g e => ownSet_at e, fun g e => le _ _ (h.rf g e), fun g e => le _ _ (h.rs g e), fun g e => le _ _ (h.rp g e), fun k e => ?_⟩, ?_, le, ownSet_sub hv⟩
  · rcases hv g e with e2 | e2
    · exact keyx _ _ e2 (by omega)
    · intro f
      have : g = xb := f
      omega
  · unfold ownSet at e
    by_cases e2 : v'.ownBlock = some k
    · exact Nat.lt_of_lt_of_le (ownsRow_lt hr e2) hc2.size
    · rw [if_neg e2] at e
      exact Nat.lt_of_lt_of_le (h.lt k e) (Nat.le_trans hc.size hc2.size)
  · exact (hc.mono (fun k e => by rw [hs k e]; simp)).trans hc2 (fun k e => .inl (by have e2 : k = xb := e; rw [e2, h.r0]; simp))

theorem LifeF.set_fs {w w1 : World} {own : OwnR} {xb pb m1 m2 : Nat} {D : LD} {mv fv sv pv v' : Value} {zs : List Int} {S : Nat → Prop} (h : LifeF w own xb pb m1 m2 D mv fv sv pv) (hc : Chg S w w1) (hs : ∀ k, S k → own k = some 5) (hr : w1.ownsRow 0 3 1 v' zs.length (zs.map (Value.int .i64))) (hv : ∀ g, v'.ownBlock = some g → own g = some 5 ∨ w.heap.size ≤ g) :
    LifeF (w1.setCell ⟨xb, 2, none⟩ v') (ownSet own v' 5) xb pb m1 m2 { D with fs := zs } mv v' sv pv ∧ OStep w own (w1.setCell ⟨xb, 2, none⟩ v') (ownSet own v' 5) := by
  have hc2 : Chg (fun k => k = xb) w1 (w1.setCell ⟨xb, 2, none⟩ v') := chg1 _
  have key : ∀ k r, own k = some r → r ≠ 5 → ¬ S k := fun k r e n f => by rw [hs k f] at e; cases e; exact n rfl
  have keyx : ∀ k r, own k = some r → r ≠ 0 → ¬ k = xb := fun k r e n f => by rw [f, h.r0] at e; cases e; exact n rfl
  have le := ownSet_le (w := w) (own := own) (v := v') (r := 5) h.lt hv
  have hxs : xb < w.heap.size := h.lt xb (by rw [h.r0]; simp)
  refine ⟨⟨by rw [heap_setCell_same _ (hc.get h.blk (key _ _ h.r0 (by omega)))]; rfl, (h.pool.chg hc (key _ _ h.r1 (by omega)) (key _ _ h.r2 (by omega)) (key _ _ h.r3 (by omega))).chg hc2 (keyx _ _ h.r1 (by omega)) (keyx _ _ h.r2 (by omega)) (keyx _ _ h.r3 (by omega)), ownsRow_chg (ownsRow_chg h.mine hc (fun g e => key _ _ (h.rm g e) (by omega))) hc2 (fun g e => keyx _ _ (h.rm g e) (by omega)), ownsRow_chg hr hc2 (fun g e => ?_), ownsRow_chg (ownsRow_chg h.since hc (fun g e => key _ _ (h.rs g e) (by omega))) hc2 (fun g e => keyx _ _ (h.rs g e) (by omega)), ownsRow_chg (ownsRow_chg h.pins hc (fun g e => key _ _ (h.rp g e) (by omega))) hc2 (fun g e => keyx _ _ (h.rp g e) (by omega)), le _ _ h.r0, le _ _ h.r1, le _ _ h.r2, le _ _ h.r3, fun g e => le _ _ (h.rm g e), fun g e => ownSet_at e, fun g e => le _ _ (h.rs g e), fun g e => le _ _ (h.rp g e), fun k e => ?_⟩, ?_, le, ownSet_sub hv⟩
  · rcases hv g e with e2 | e2
    · exact keyx _ _ e2 (by omega)
    · intro f
      have : g = xb := f
      omega
  · unfold ownSet at e
    by_cases e2 : v'.ownBlock = some k
    · exact Nat.lt_of_lt_of_le (ownsRow_lt hr e2) hc2.size
    · rw [if_neg e2] at e
      exact Nat.lt_of_lt_of_le (h.lt k e) (Nat.le_trans hc.size hc2.size)
  · exact (hc.mono (fun k e => by rw [hs k e]; simp)).trans hc2 (fun k e => .inl (by have e2 : k = xb := e; rw [e2, h.r0]; simp))

theorem LifeF.set_ss {w w1 : World} {own : OwnR} {xb pb m1 m2 : Nat} {D : LD} {mv fv sv pv v' : Value} {zs : List Int} {S : Nat → Prop} (h : LifeF w own xb pb m1 m2 D mv fv sv pv) (hc : Chg S w w1) (hs : ∀ k, S k → own k = some 6) (hr : w1.ownsRow 0 3 1 v' zs.length (zs.map (Value.int .i64))) (hv : ∀ g, v'.ownBlock = some g → own g = some 6 ∨ w.heap.size ≤ g) :
    LifeF (w1.setCell ⟨xb, 3, none⟩ v') (ownSet own v' 6) xb pb m1 m2 { D with ss := zs } mv fv v' pv ∧ OStep w own (w1.setCell ⟨xb, 3, none⟩ v') (ownSet own v' 6) := by
  have hc2 : Chg (fun k => k = xb) w1 (w1.setCell ⟨xb, 3, none⟩ v') := chg1 _
  have key : ∀ k r, own k = some r → r ≠ 6 → ¬ S k := fun k r e n f => by rw [hs k f] at e; cases e; exact n rfl
  have keyx : ∀ k r, own k = some r → r ≠ 0 → ¬ k = xb := fun k r e n f => by rw [f, h.r0] at e; cases e; exact n rfl
  have le := ownSet_le (w := w) (own := own) (v := v') (r := 6) h.lt hv
  have hxs : xb < w.heap.size := h.lt xb (by rw [h.r0]; simp)
  refine ⟨⟨by rw [heap_setCell_same _ (hc.get h.blk (key _ _ h.r0 (by omega)))]; rfl, (h.pool.chg hc (key _ _ h.r1 (by omega)) (key _ _ h.r2 (by omega)) (key _ _ h.r3 (by omega))).chg hc2 (keyx _ _ h.r1 (by omega)) (keyx _ _ h.r2 (by omega)) (keyx _ _ h.r3 (by omega)), ownsRow_chg (ownsRow_chg h.mine hc (fun g e => key _ _ (h.rm g e) (by omega))) hc2 (fun g e => keyx _ _ (h.rm g e) (by omega)), ownsRow_chg (ownsRow_chg h.free hc (fun g e => key _ _ (h.rf g e) (by omega))) hc2 (fun g e => keyx _ _ (h.rf g e) (by omega)), ownsRow_chg hr hc2 (fun g e => ?_), ownsRow_chg (ownsRow_chg h.pins hc (fun g e => key _ _ (h.rp g e) (by omega))) hc2 (fun g e => keyx _ _ (h.rp g e) (by omega)), le _ _ h.r0, le _ _ h.r1, le _ _ h.r2, le _ _ h.r3, fun g e => le _ _ (h.rm g e), fun g e => le _ _ (h.rf g e), fun g e => ownSet_at e, fun g e => le _ _ (h.rp g e), fun k e => ?_⟩, ?_, le, ownSet_sub hv⟩
  · rcases hv g e with e2 | e2
    · exact keyx _ _ e2 (by omega)
    · intro f
      have : g = xb := f
      omega
  · unfold ownSet at e
    by_cases e2 : v'.ownBlock = some k
    · exact Nat.lt_of_lt_of_le (ownsRow_lt hr e2) hc2.size
    · rw [if_neg e2] at e
      exact Nat.lt_of_lt_of_le (h.lt k e) (Nat.le_trans hc.size hc2.size)
  · exact (hc.mono (fun k e => by rw [hs k e]; simp)).trans hc2 (fun k e => .inl (by have e2 : k = xb := e; rw [e2, h.r0]; simp))

theorem LifeF.set_pn {w w1 : World} {own : OwnR} {xb pb m1 m2 : Nat} {D : LD} {mv fv sv pv v' : Value} {zs : List Int} {S : Nat → Prop} (h : LifeF w own xb pb m1 m2 D mv fv sv pv) (hc : Chg S w w1) (hs : ∀ k, S k → own k = some 7) (hr : w1.ownsRow 0 3 1 v' zs.length (zs.map (Value.int .i64))) (hv : ∀ g, v'.ownBlock = some g → own g = some 7 ∨ w.heap.size ≤ g) :
    LifeF (w1.setCell ⟨xb, 4, none⟩ v') (ownSet own v' 7) xb pb m1 m2 { D with pn := zs } mv fv sv v' ∧ OStep w own (w1.setCell ⟨xb, 4, none⟩ v') (ownSet own v' 7) := by
  have hc2 : Chg (fun k => k = xb) w1 (w1.setCell ⟨xb, 4, none⟩ v') := chg1 _
  have key : ∀ k r, own k = some r → r ≠ 7 → ¬ S k := fun k r e n f => by rw [hs k f] at e; cases e; exact n rfl
  have keyx : ∀ k r, own k = some r → r ≠ 0 → ¬ k = xb := fun k r e n f => by rw [f, h.r0] at e; cases e; exact n rfl
  have le := ownSet_le (w := w) (own := own) (v := v') (r := 7) h.lt hv
  have hxs : xb < w.heap.size := h.lt xb (by rw [h.r0]; simp)
  refine ⟨⟨by rw [heap_setCell_same _ (hc.get h.blk (key _ _ h.r0 (by omega)))]; rfl, (h.pool.chg hc (key _ _ h.r1 (by omega)) (key _ _ h.r2 (by omega)) (key _ _ h.r3 (by omega))).chg hc2 (keyx _ _ h.r1 (by omega)) (keyx _ _ h.r2 (by omega)) (keyx _ _ h.r3 (by omega)), ownsRow_chg (ownsRow_chg h.mine hc (fun g e => key _ _ (h.rm g e) (by omega))) hc2 (fun g e => keyx _ _ (h.rm g e) (by omega)), ownsRow_chg (ownsRow_chg h.free hc (fun g e => key _ _ (h.rf g e) (by omega))) hc2 (fun g e => keyx _ _ (h.rf g e) (by omega)), ownsRow_chg (ownsRow_chg h.since hc (fun g e => key _ _ (h.rs g e) (by omega))) hc2 (fun g e => keyx _ _ (h.rs g e) (by omega)), ownsRow_chg hr hc2 (fun g e => ?_), le _ _ h.r0, le _ _ h.r1, le _ _ h.r2, le _ _ h.r3, fun g e => le _ _ (h.rm g e), fun g e => le _ _ (h.rf g e), fun g e => le _ _ (h.rs g e), fun g e => ownSet_at e, fun k e => ?_⟩, ?_, le, ownSet_sub hv⟩
  · rcases hv g e with e2 | e2
    · exact keyx _ _ e2 (by omega)
    · intro f
      have : g = xb := f
      omega
  · unfold ownSet at e
    by_cases e2 : v'.ownBlock = some k
    · exact Nat.lt_of_lt_of_le (ownsRow_lt hr e2) hc2.size
    · rw [if_neg e2] at e
      exact Nat.lt_of_lt_of_le (h.lt k e) (Nat.le_trans hc.size hc2.size)
  · exact (hc.mono (fun k e => by rw [hs k e]; simp)).trans hc2 (fun k e => .inl (by have e2 : k = xb := e; rw [e2, h.r0]; simp))
end Go.Proofs.Ytipclbibomemjaa
