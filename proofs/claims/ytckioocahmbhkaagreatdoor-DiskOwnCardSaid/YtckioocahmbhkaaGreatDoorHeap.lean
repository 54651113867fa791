/- Words of this proof on memory: what may have changed between two worlds; a slice's row under a role; of no program. -/
import Derived.WalkKit
import Derived.WalkSmall
import Derived.Maps.AppendAt
import Derived.Maps.OwnSet
import Derived.Deep.Draws
import Derived.Deep.QuietTactic
import Derived.Laws.CopyOwn
import Derived.Lib.Hide
namespace Go.Proofs.YtckioocahmbhkaaGreatDoor
open Go Go.RowKit Go.Maps

/-- w' is w but for the blocks in S and for new ones. -/
structure Chg (S : Nat → Prop) (w w' : World) : Prop where
  os : w'.os = w.os
  tape : w'.tape = w.tape
  output : w'.output = w.output
  size : w.heap.size ≤ w'.heap.size
  block : ∀ k, k < w.heap.size → ¬ S k → w'.heap[k]? = w.heap[k]?

theorem Chg.refl (S : Nat → Prop) (w : World) : Chg S w w := ⟨rfl, rfl, rfl, Nat.le_refl _, fun _ _ _ => rfl⟩

theorem Chg.trans {S S' : Nat → Prop} {a b c : World} (h : Chg S a b) (k : Chg S' b c) (hs : ∀ x, S' x → S x ∨ a.heap.size ≤ x) : Chg S a c :=
  ⟨k.os.trans h.os, k.tape.trans h.tape, k.output.trans h.output, Nat.le_trans h.size k.size,
   fun x hx hn => (k.block x (Nat.lt_of_lt_of_le hx h.size) (fun hs' => (hs x hs').elim hn (fun hge => by omega))).trans (h.block x hx hn)⟩

theorem Chg.mono {S S' : Nat → Prop} {a b : World} (h : Chg S a b) (hs : ∀ x, S x → S' x) : Chg S' a b :=
  ⟨h.os, h.tape, h.output, h.size, fun x hx hn => h.block x hx (fun e => hn (hs x e))⟩

theorem Chg.alloc {S : Nat → Prop} {a b : World} (h : Chg S a b) (o : Obj) : Chg S a (b.alloc o) :=
  h.trans (S' := S) ⟨rfl, rfl, rfl, by simp, fun k hk _ => Below.heap_alloc _ _ _ hk⟩ (fun _ => Or.inl)

theorem Chg.drew {S : Nat → Prop} {a b : World} (h : Chg S a b) : Chg S a b.drew := ⟨h.os, h.tape, h.output, h.size, h.block⟩
theorem Chg.drewN {S : Nat → Prop} {a b : World} (h : Chg S a b) (n : Nat) : Chg S a (b.drewN n) := ⟨h.os, h.tape, h.output, h.size, h.block⟩

theorem Chg.setCell {S : Nat → Prop} {a b : World} (h : Chg S a b) {p : Addr} (hp : S p.block ∨ a.heap.size ≤ p.block) (u : Value) : Chg S a (b.setCell p u) :=
  h.trans (S' := fun x => x = p.block) ⟨rfl, rfl, rfl, by simp [World.setCell], fun k _ hk => Below.heap_setCell _ _ _ _ hk⟩ (fun x hx => by subst hx; exact hp)

theorem Chg.grown {S : Nat → Prop} {a b c : World} {row : Option Nat} (h : Chg S a b) (hg : b.grownBy c row) (hp : ∀ k, row = some k → S k ∨ a.heap.size ≤ k) : Chg S a c :=
  h.trans (S' := fun x => row = some x) ⟨hg.os, hg.tape, hg.output, hg.size, fun k hk hn => hg.block k hk (fun e => hn e.symm)⟩ (fun x hx => hp x hx)

theorem Chg.grownBy {a b : World} (h : Chg (fun _ => False) a b) (row : Option Nat) : a.grownBy b row := ⟨h.os, h.tape, h.output, h.size, fun k hk _ => h.block k hk (fun f => f)⟩

theorem Chg.below {S : Nat → Prop} {a b c : World} (h : Chg S a b) (hb : Below b.heap.size b c) : Chg S a c :=
  h.trans (S' := fun _ => False) ⟨hb.os, hb.tape, hb.output, hb.size, fun k hk _ => hb.block k hk⟩ (fun _ f => f.elim)

theorem Chg.toBelow {S : Nat → Prop} {a b : World} (h : Chg S a b) (hs : ∀ k, S k → a.heap.size ≤ k) : Below a.heap.size a b :=
  ⟨h.os, h.tape, h.output, h.size, fun k hk => h.block k hk (fun e => by have := hs k e; omega)⟩

theorem Chg.get {S : Nat → Prop} {a b : World} (h : Chg S a b) {k : Nat} {o : Obj} (hk : a.heap[k]? = some o) (hn : ¬ S k) : b.heap[k]? = some o :=
  (h.block k (Array.getElem?_eq_some_iff.1 hk).1 hn).trans hk

/-- A row under Chg. -/
theorem ownsRow_chg {S : Nat → Prop} {w w' : World} {base : Nat} {e : TypeId} {sz : Nat} {v : Value} {n : Nat} {xs : List Value} (h : w.ownsRow base e sz v n xs) (hc : Chg S w w') (hv : ∀ g, v.ownBlock = some g → ¬ S g) :
    w'.ownsRow base e sz v n xs := by
  refine ⟨h.1, ?_⟩
  rcases h.2 with h2 | ⟨g, cap, cur, rfl, hg, hh, r⟩
  · exact .inl h2
  · exact .inr ⟨g, cap, cur, rfl, hg, hc.get hh (hv g rfl), r⟩

theorem ownsMap_chg {H : Type} {P : Program} {k : TypeId} {R : Value → Option (DataW H × List MemPlace)} {S : Nat → Prop} {w w' : World} {b n : Nat} {D : DataW H} (h : w.ownsMap P k R b n D) (hc : Chg S w w') (hb : ¬ S b) : w'.ownsMap P k R b n D := by
  obtain ⟨es, clock, hh, r⟩ := h
  exact ⟨es, clock, hc.get hh hb, r⟩

/-- The row's block, its cells, written at one place. -/
theorem ownsRow_setCell {w : World} {base : Nat} {e : TypeId} {sz g n cap : Nat} {xs : List Value} (h : w.ownsRow base e sz (.slice (some ⟨g, 0, none⟩) n cap) n xs) (o : Nat) (v : Value) (ho : o < xs.length) :
    (w.setCell ⟨g, o, none⟩ v).ownsRow base e sz (.slice (some ⟨g, 0, none⟩) n cap) n (xs.set o v) := by
  obtain ⟨h1, h2⟩ := h
  rcases h2 with ⟨h0, _⟩ | ⟨g', cap', cur, hv, hg, hh, hn, hcap, hsz, htake⟩
  · cases h0
  · cases hv
    refine ⟨by simpa using h1, .inr ⟨g, cap, cur.setIfInBounds o v, rfl, hg, ?_, hn, hcap, by simpa using hsz, ?_⟩⟩
    · simp [World.setCell, Array.getElem?_modify, hh]
    · subst htake
      rw [Array.toList_setIfInBounds, List.take_set]

/-- A block of cells, one of them written. -/
theorem heap_setCell_same {w : World} {g o : Nat} {cs : Array Value} {e : TypeId} {fz : Nat × Nat} (v : Value) (h : w.heap[g]? = some (.cells cs e fz)) : (w.setCell ⟨g, o, none⟩ v).heap[g]? = some (.cells (cs.setIfInBounds o v) e fz) := by
  simp [World.setCell, Array.getElem?_modify, h]

theorem heap_setCell_other {w : World} {g : Nat} {a : Addr} {o : Obj} (v : Value) (h : w.heap[g]? = some o) (hne : g ≠ a.block) : (w.setCell a v).heap[g]? = some o :=
  (Below.heap_setCell _ _ _ _ hne).trans h

theorem heap_alloc_keep {w : World} {g : Nat} {o : Obj} (o' : Obj) (h : w.heap[g]? = some o) : (w.alloc o').heap[g]? = some o :=
  (Below.heap_alloc _ _ _ (Array.getElem?_eq_some_iff.1 h).1).trans h

theorem heap_lt {w : World} {g : Nat} {o : Obj} (h : w.heap[g]? = some o) : g < w.heap.size := (Array.getElem?_eq_some_iff.1 h).1

/-- A byte as a value. -/
def bV (x : UInt8) : Value := .int .u8 x.toNat
def bVs (p : List UInt8) : List Value := p.map bV
theorem bVs_length (p : List UInt8) : (bVs p).length = p.length := by simp [bVs]

/-- A token: what a map's element reads as: the value itself. -/
def RV (v : Value) : Option (DataW Value × List MemPlace) := some (.held v, [])

end Go.Proofs.YtckioocahmbhkaaGreatDoor
