/- The disk as a mathematical object, and how it lies in memory. -/
import Derived.Test.YtckioocahmbhkaaGreatDoorHeap
import Derived.Test.YtckioocahmbhkaaGreatDoorLock
namespace Go.Proofs.YtckioocahmbhkaaGreatDoor
open Go Go.RowKit Go.Maps

/-- What a disk holds. wr: how often it was written (of the proof alone). -/
structure DS where
  cap : Int
  lasting : List (List UInt8)
  pending : List (Nat × List UInt8)
  off : Bool
  fuse : Int
  done : Int
  reads : Int
  wr : Nat

def DS.pages (D : DS) : Nat := D.pending.foldl (fun n q => max n (q.1 + 1)) D.lasting.length

/-- What was written last of page i, if it pends. -/
def lastOf (qs : List (Nat × List UInt8)) (i : Int) : Option (List UInt8) := (qs.reverse.find? fun q => (q.1 : Int) == i).map (·.2)

inductive Role where
  | str | mp | larr | parr
  | page (i : Nat) | pend (i : Nat) | now (i : Int)

abbrev Own := Nat → Option Role

/-- A page's bytes in a block of its own. -/
def Buf (w : World) (own : Own) (r : Role) (v : Value) (p : List UInt8) : Prop :=
  ∃ g cap, v = .slice (some ⟨g, 0, none⟩) p.length cap ∧ own g = some r ∧ w.ownsRow 0 5 1 v p.length (bVs p)

def Arr (w : World) (own : Own) (r : Role) (e : TypeId) (sz : Nat) (v : Value) (n : Nat) (xs : List Value) : Prop :=
  w.ownsRow 0 e sz v n xs ∧ ∀ g, v.ownBlock = some g → own g = some r

def LastAt (w : World) (own : Own) (lv : Value) (ps : List (List UInt8)) : Prop :=
  ∃ ls : List Value, ls.length = ps.length ∧ Arr w own .larr 47 1 lv ps.length ls ∧ ∀ (i : Nat) (p : List UInt8), ps[i]? = some p → ∃ v, ls[i]? = some v ∧ Buf w own (.page i) v p

def pcells (qs : List (Nat × List UInt8)) (vs : List Value) : List Value := ((qs.zip vs).map fun x => [.int .i64 x.1.1, x.2]).flatten

def PendAt (w : World) (own : Own) (pv : Value) (qs : List (Nat × List UInt8)) : Prop :=
  ∃ vs : List Value, vs.length = qs.length ∧ Arr w own .parr 78 2 pv qs.length (pcells qs vs) ∧ ∀ (i : Nat) (q : Nat × List UInt8), qs[i]? = some q → ∃ v, vs[i]? = some v ∧ Buf w own (.pend i) v q.2

def NowAt (w : World) (own : Own) (m : Nat) (wr : Nat) (qs : List (Nat × List UInt8)) : Prop :=
  own m = some .mp ∧ ∃ M : DataW Value, w.ownsMap Tryz.prog 3 RV m wr M ∧
    ∀ i : Int, match lastOf qs i with
      | none => Maps.has M (.int .i64 i) = false
      | some p => Maps.has M (.int .i64 i) = true ∧ ∃ v, (∀ z, M.atKey (.int .i64 i) z = .held v) ∧ Buf w own (.now i) v p

def strCells (L : Int) (sema lv pv : Value) (m : Nat) (D : DS) : Array Value :=
  #[.int .i32 L, sema, .int .i64 D.cap, lv, pv, .map (some m), .bool D.off, .int .i64 D.fuse, .int .i64 D.done, .int .i64 D.reads]

def Own.blocks (own : Own) (k : Nat) : Prop := own k ≠ none

/-- The disk D lies at block b, its lock's state L, its memory told by own; its struct's other cells: sema, lv, pv, m. -/
structure DiskF (w : World) (own : Own) (L : Int) (b : Nat) (D : DS) (sema lv pv : Value) (m : Nat) : Prop where
  str : own b = some .str
  blk : w.heap[b]? = some (.cells (strCells L sema lv pv m D) 76 (0, 0))
  last : LastAt w own lv D.lasting
  pend : PendAt w own pv D.pending
  now : NowAt w own m D.wr D.pending
  f0 : 0 ≤ D.fuse
  f1 : D.fuse ≤ 9223372036854775807
  lt : ∀ k, own.blocks k → k < w.heap.size

def DiskAt (w : World) (own : Own) (L : Int) (b : Nat) (D : DS) : Prop := ∃ sema lv pv m, DiskF w own L b D sema lv pv m

def Own.le (own own' : Own) : Prop := ∀ g r, own g = some r → own' g = some r
def Own.upd (own : Own) (g : Nat) (r : Role) : Own := fun k => if k = g then some r else own k
theorem Own.le_refl (own : Own) : own.le own := fun _ _ h => h
theorem Own.le_trans {a b c : Own} (h : a.le b) (k : b.le c) : a.le c := fun g r e => k g r (h g r e)
theorem Own.le_upd {own : Own} {g : Nat} (r : Role) (h : ¬ own.blocks g) : own.le (own.upd g r) := fun k r' e => by
  unfold Own.upd
  rw [if_neg (fun e' => h (by subst e'; unfold Own.blocks; rw [e]; simp))]
  exact e
theorem Own.upd_same (own : Own) (g : Nat) (r : Role) : own.upd g r g = some r := by simp [Own.upd]
theorem Own.blocks_upd {own : Own} {g k : Nat} {r : Role} (h : (own.upd g r).blocks k) : own.blocks k ∨ k = g := by
  unfold Own.blocks Own.upd at h
  by_cases e : k = g
  · exact .inr e
  · rw [if_neg e] at h; exact .inl h
theorem Own.blocks_of {own : Own} {g : Nat} {r : Role} (h : own g = some r) : own.blocks g := by unfold Own.blocks; rw [h]; simp

/-- A step of a disk: its memory turns, and new memory may be its own. -/
structure Step (w : World) (own : Own) (w' : World) (own' : Own) : Prop where
  chg : Chg own.blocks w w'
  new : ∀ k, own'.blocks k → own.blocks k ∨ w.heap.size ≤ k

/-- The struct's own cells alone turn. -/
theorem Buf.chg {w w' : World} {own : Own} {r : Role} {v : Value} {p : List UInt8} {S : Nat → Prop} (h : Buf w own r v p) (hc : Chg S w w') (hs : ∀ g, own g = some r → ¬ S g) : Buf w' own r v p := by
  obtain ⟨g, cap, rfl, ho, hr⟩ := h
  exact ⟨g, cap, rfl, ho, ownsRow_chg hr hc (fun g' e => by cases e; exact hs _ ho)⟩

theorem Arr.chg {w w' : World} {own : Own} {r : Role} {e : TypeId} {sz n : Nat} {v : Value} {xs : List Value} {S : Nat → Prop} (h : Arr w own r e sz v n xs) (hc : Chg S w w') (hs : ∀ g, own g = some r → ¬ S g) : Arr w' own r e sz v n xs :=
  ⟨ownsRow_chg h.1 hc (fun g e => hs g (h.2 g e)), h.2⟩

theorem LastAt.chg {w w' : World} {own : Own} {lv : Value} {ps : List (List UInt8)} {S : Nat → Prop} (h : LastAt w own lv ps) (hc : Chg S w w') (h1 : ∀ g, own g = some .larr → ¬ S g) (h2 : ∀ g i, own g = some (.page i) → ¬ S g) : LastAt w' own lv ps := by
  obtain ⟨ls, hl, ha, hp⟩ := h
  exact ⟨ls, hl, ha.chg hc h1, fun i p hi => let ⟨v, hv, hb⟩ := hp i p hi; ⟨v, hv, hb.chg hc (fun g e => h2 g i e)⟩⟩

theorem PendAt.chg {w w' : World} {own : Own} {pv : Value} {qs : List (Nat × List UInt8)} {S : Nat → Prop} (h : PendAt w own pv qs) (hc : Chg S w w') (h1 : ∀ g, own g = some .parr → ¬ S g) (h2 : ∀ g i, own g = some (.pend i) → ¬ S g) : PendAt w' own pv qs := by
  obtain ⟨vs, hl, ha, hp⟩ := h
  exact ⟨vs, hl, ha.chg hc h1, fun i p hi => let ⟨v, hv, hb⟩ := hp i p hi; ⟨v, hv, hb.chg hc (fun g e => h2 g i e)⟩⟩

theorem NowAt.chg {w w' : World} {own : Own} {m wr : Nat} {qs : List (Nat × List UInt8)} {S : Nat → Prop} (h : NowAt w own m wr qs) (hc : Chg S w w') (h1 : ∀ g, own g = some .mp → ¬ S g) (h2 : ∀ g i, own g = some (.now i) → ¬ S g) : NowAt w' own m wr qs := by
  obtain ⟨hm, M, hM, hq⟩ := h
  refine ⟨hm, M, ownsMap_chg hM hc (h1 m hm), fun i => ?_⟩
  have := hq i
  split
  · rename_i e; rw [e] at this; exact this
  · rename_i p e
    rw [e] at this
    obtain ⟨h3, v, h4, h5⟩ := this
    exact ⟨h3, v, h4, h5.chg hc (fun g e => h2 g i e)⟩

theorem Buf.le {w : World} {own own' : Own} {r : Role} {v : Value} {p : List UInt8} (h : Buf w own r v p) (hl : own.le own') : Buf w own' r v p := by
  obtain ⟨g, cap, rfl, ho, hr⟩ := h
  exact ⟨g, cap, rfl, hl _ _ ho, hr⟩
theorem Arr.le {w : World} {own own' : Own} {r : Role} {e : TypeId} {sz n : Nat} {v : Value} {xs : List Value} (h : Arr w own r e sz v n xs) (hl : own.le own') : Arr w own' r e sz v n xs :=
  ⟨h.1, fun g e => hl _ _ (h.2 g e)⟩
theorem LastAt.le {w : World} {own own' : Own} {lv : Value} {ps : List (List UInt8)} (h : LastAt w own lv ps) (hl : own.le own') : LastAt w own' lv ps := by
  obtain ⟨ls, h1, ha, hp⟩ := h
  exact ⟨ls, h1, ha.le hl, fun i p hi => let ⟨v, hv, hb⟩ := hp i p hi; ⟨v, hv, hb.le hl⟩⟩
theorem PendAt.le {w : World} {own own' : Own} {pv : Value} {qs : List (Nat × List UInt8)} (h : PendAt w own pv qs) (hl : own.le own') : PendAt w own' pv qs := by
  obtain ⟨vs, h1, ha, hp⟩ := h
  exact ⟨vs, h1, ha.le hl, fun i p hi => let ⟨v, hv, hb⟩ := hp i p hi; ⟨v, hv, hb.le hl⟩⟩
theorem NowAt.le {w : World} {own own' : Own} {m wr : Nat} {qs : List (Nat × List UInt8)} (h : NowAt w own m wr qs) (hl : own.le own') : NowAt w own' m wr qs := by
  obtain ⟨hm, M, hM, hq⟩ := h
  refine ⟨hl _ _ hm, M, hM, fun i => ?_⟩
  have := hq i
  split
  · rename_i e; rw [e] at this; exact this
  · rename_i p e
    rw [e] at this
    obtain ⟨h3, v, h4, h5⟩ := this
    exact ⟨h3, v, h4, h5.le hl⟩

/-- All of a disk stays while blocks that are not its own turn. -/
theorem DiskF.chg {w w' : World} {own : Own} {L : Int} {b : Nat} {D : DS} {sema lv pv : Value} {m : Nat} {S : Nat → Prop} (h : DiskF w own L b D sema lv pv m) (hc : Chg S w w') (hs : ∀ g, own.blocks g → ¬ S g) : DiskF w' own L b D sema lv pv m := by
  have k : ∀ g r, own g = some r → ¬ S g := fun g r e => hs g (Own.blocks_of e)
  exact ⟨h.str, hc.get h.blk (k b _ h.str), h.last.chg hc (fun g => k g _) (fun g i => k g _), h.pend.chg hc (fun g => k g _) (fun g i => k g _), h.now.chg hc (fun g => k g _) (fun g i => k g _), h.f0, h.f1,
    fun g hg => Nat.lt_of_lt_of_le (h.lt g hg) hc.size⟩

theorem DiskAt.chg {w w' : World} {own : Own} {L : Int} {b : Nat} {D : DS} {S : Nat → Prop} (h : DiskAt w own L b D) (hc : Chg S w w') (hs : ∀ g, own.blocks g → ¬ S g) : DiskAt w' own L b D := by
  obtain ⟨sema, lv, pv, m, h⟩ := h
  exact ⟨sema, lv, pv, m, h.chg hc hs⟩

theorem not_b {own : Own} {b : Nat} (hb : own b = some .str) {g : Nat} {r : Role} (h : own g = some r) (hr : r ≠ .str) : ¬ g = b := fun e => by
  subst e; rw [hb] at h; cases h; exact hr rfl

/-- The struct's cells turn, and nothing else: the lock, and what is told in plain cells. -/
theorem DiskF.turn {w w' : World} {own : Own} {L L' : Int} {b : Nat} {D D' : DS} {sema lv pv : Value} {m : Nat} (h : DiskF w own L b D sema lv pv m) (hc : Chg (fun x => x = b) w w')
    (hb : w.heap[b]? = some (.cells (strCells L sema lv pv m D) 76 (0, 0)) → w'.heap[b]? = some (.cells (strCells L' sema lv pv m D') 76 (0, 0)))
    (h1 : D'.lasting = D.lasting) (h2 : D'.pending = D.pending) (h3 : D'.wr = D.wr) (h4 : 0 ≤ D'.fuse) (h5 : D'.fuse ≤ 9223372036854775807) : DiskF w' own L' b D' sema lv pv m := by
  have k : ∀ g r, own g = some r → r ≠ .str → ¬ g = b := fun g r e hr => not_b h.str e hr
  refine ⟨h.str, hb h.blk, ?_, ?_, ?_, h4, h5, fun g hg => Nat.lt_of_lt_of_le (h.lt g hg) hc.size⟩
  · rw [h1]; exact h.last.chg hc (fun g e => k g _ e (by simp)) (fun g i e => k g _ e (by simp))
  · rw [h2]; exact h.pend.chg hc (fun g e => k g _ e (by simp)) (fun g i e => k g _ e (by simp))
  · rw [h2, h3]; exact h.now.chg hc (fun g e => k g _ e (by simp)) (fun g i e => k g _ e (by simp))

theorem Step.refl (w : World) (own : Own) : Step w own w own := ⟨Chg.refl _ _, fun _ h => .inl h⟩
theorem Step.trans {w w1 w2 : World} {own own1 own2 : Own} (h : Step w own w1 own1) (k : Step w1 own1 w2 own2) : Step w own w2 own2 :=
  ⟨h.chg.trans k.chg (fun x hx => h.new x hx), fun x hx => (k.new x hx).elim (h.new x) (fun hge => .inr (Nat.le_trans h.chg.size hge))⟩
/-- What isn't the disk's turns, and new memory. -/
theorem Step.of_b {w w' : World} {own : Own} {b : Nat} (hb : own b = some .str) (hc : Chg (fun x => x = b) w w') : Step w own w' own :=
  ⟨hc.mono (fun x e => by subst e; exact Own.blocks_of hb), fun _ h => .inl h⟩
theorem Step.of_none {w w' : World} {own : Own} (hc : Chg (fun _ => False) w w') : Step w own w' own := ⟨hc.mono (fun _ f => f.elim), fun _ h => .inl h⟩

end Go.Proofs.YtckioocahmbhkaaGreatDoor
