/- Bytes and pairs that can be read; new ones. -/
import Derived.Test.YteejkkidnohcfaaGreatDoorHeap
import Derived.Test.YteejkkidnohcfaaGreatDoorB3
import Derived.Lib.BufferRead
import Derived.Deep.LoopGhost
import Derived.Outline
import Derived.BigQuiet
import Derived.Test.YteejkkidnohcfaaGreatDoorProg
namespace Go.Proofs.YteejkkidnohcfaaGreatDoor
open Go Go.RowKit Go.Maps

theorem info5 : (Tryz.prog.info? 5).map (fun i => (i.zero, i.size, i.bytes)) = some (some (.int .u8 0), 1, 1) := by kernel_rfl
theorem info44 : (Tryz.prog.info? 54).map (fun i => (i.zero, i.size, i.bytes)) = some (some (.agg #[.slice none 0 0, .slice none 0 0]), 2, 48) := by kernel_rfl
theorem cells5 : Tryz.prog.cellsOf 5 = 1 := by kernel_rfl
theorem cells44 : Tryz.prog.cellsOf 54 = 2 := by kernel_rfl

theorem addr_add (g o j : Nat) : (⟨g, o, none⟩ : Addr).add j = ⟨g, o + j, none⟩ := by simp [Addr.add]
theorem block_add (ad : Addr) (j : Nat) : (ad.add j).block = ad.block := by unfold Addr.add; split <;> rfl
theorem heap_alloc_new (w : World) (o : Obj) : (w.alloc o).heap[w.heap.size]? = some o := by show (w.heap.push o)[w.heap.size]? = _; simp
theorem cell_chg {S : Nat → Prop} {w w' : World} {a : Addr} {v : Value} (h : Chg S w w') (hv : w.cell? a = some v) (hs : ¬ S a.block) : w'.cell? a = some v :=
  (World.cell?_of_block (w := w) (w' := w') (a := a) (h.block a.block (World.block_lt_of_cell? _ _ hv) hs)).trans hv
theorem ownsRow_slice {w : World} {base : Nat} {e : TypeId} {sz : Nat} {v : Value} {n : Nat} {xs : List Value} (h : w.ownsRow base e sz v n xs) :
    ∃ a cap, v = .slice a n cap ∧ n ≤ cap ∧ cap ≤ maxLen ∧ (0 < n → ∃ g, a = some ⟨g, 0, none⟩) := by
  rcases h.2 with ⟨rfl, rfl⟩ | ⟨g, cap, cur, rfl, hg, hh, hn, hcap, _⟩
  · exact ⟨none, 0, rfl, Nat.le_refl _, by simp [maxLen], fun h => by omega⟩
  · exact ⟨some ⟨g, 0, none⟩, cap, rfl, hn, hcap, fun _ => ⟨g, rfl⟩⟩
theorem bVs_get {bs : List UInt8} {j : Nat} {u : Value} (h : (bVs bs)[j]? = some u) : ∃ x, bs[j]? = some x ∧ u = bV x := by
  unfold bVs at h
  rw [List.getElem?_map, Option.map_eq_some_iff] at h
  obtain ⟨x, h1, h2⟩ := h
  exact ⟨x, h1, h2.symm⟩
theorem bVs_at {bs : List UInt8} {j : Nat} {x : UInt8} (h : bs[j]? = some x) : (bVs bs)[j]? = some (bV x) := by
  unfold bVs; rw [List.getElem?_map, h]; rfl
theorem oneCell_bVs {bs : List UInt8} : ∀ u ∈ bVs bs, u.oneCell' = true := by
  intro u hu
  unfold bVs at hu
  obtain ⟨x, _, rfl⟩ := List.mem_map.1 hu
  rfl

/-- A slice of bytes that can be read, nil and empty too. -/
def SeesB (w : World) (v : Value) (bs : List UInt8) : Prop :=
  ∃ a cap, v = .slice a bs.length cap ∧ (a = none → bs = []) ∧ ∀ ad, a = some ad → ∀ (j : Nat) (x : UInt8), bs[j]? = some x → w.cell? (ad.add j) = some (bV x)

/-- Is that block none that the slice is read of? -/
def Far (S : Nat → Prop) (v : Value) (n : Nat) : Prop := ∀ ad m c, v = .slice (some ad) m c → 0 < n → ¬ S ad.block
theorem SeesB.chg {w w' : World} {v : Value} {bs : List UInt8} {S : Nat → Prop} (h : SeesB w v bs) (hc : Chg S w w') (hs : Far S v bs.length) : SeesB w' v bs := by
  obtain ⟨a, cap, rfl, h1, h2⟩ := h
  refine ⟨a, cap, rfl, h1, fun ad e j x hx => ?_⟩
  subst e
  refine cell_chg hc (h2 ad rfl j x hx) ?_
  rw [block_add]
  exact hs ad _ _ rfl (by have := (List.getElem?_eq_some_iff.1 hx).1; omega)
theorem far_none (v : Value) (n : Nat) : Far (fun _ => False) v n := fun _ _ _ _ _ f => f
theorem SeesB.chg0 {w w' : World} {v : Value} {bs : List UInt8} (h : SeesB w v bs) (hc : Chg (fun _ => False) w w') : SeesB w' v bs := h.chg hc (far_none _ _)
theorem SeesB.lt {w : World} {v : Value} {bs : List UInt8} (h : SeesB w v bs) : ∀ ad m c, v = .slice (some ad) m c → 0 < bs.length → ad.block < w.heap.size := by
  intro ad m c e hn
  obtain ⟨a, cap, e2, h1, h2⟩ := h
  subst e
  cases e2
  have hx : bs[0]? = some bs[0] := List.getElem?_eq_getElem hn
  have := World.block_lt_of_cell? _ _ (h2 ad rfl 0 _ hx)
  rwa [block_add] at this
theorem SeesB.nil (w : World) (a : Option Addr) (cap : Nat) : SeesB w (.slice a 0 cap) [] := ⟨a, cap, rfl, fun _ => rfl, fun ad _ j x hx => by simp at hx⟩
theorem SeesB.conv {w : World} {v : Value} {bs : List UInt8} (h : SeesB w v bs) : (convert 49 9 v).run Tryz.prog w = .ok (.string ⟨bs.toArray⟩) w := by
  obtain ⟨a, cap, rfl, h1, h2⟩ := h
  cases a with
  | none =>
    rw [h1 rfl]
    exact Lib.run_convert_nil_bytes w 49 9 5 cap Tryz.underlying49 Tryz.underlying5 Tryz.underlying9
  | some ad =>
    refine run_convert_bytes_back w 49 9 5 ad cap bs Tryz.underlying49 Tryz.underlying5 Tryz.underlying9 (fun j hj => ?_)
    exact h2 ad rfl j _ (List.getElem?_eq_getElem hj)
theorem SeesB.of_row {w : World} {v : Value} {bs : List UInt8} {B : Nat} (h : w.ownsRow B 5 1 v bs.length (bVs bs)) : SeesB w v bs := by
  obtain ⟨a, cap, rfl, _, _, hg⟩ := ownsRow_slice h
  refine ⟨a, cap, rfl, fun e => ?_, fun ad e j x hx => ?_⟩
  · by_cases h0 : 0 < bs.length
    · obtain ⟨g, hg⟩ := hg h0
      rw [e] at hg; cases hg
    · exact List.eq_nil_of_length_eq_zero (by omega)
  · have hj := (List.getElem?_eq_some_iff.1 hx).1
    obtain ⟨g, hg⟩ := hg (by omega)
    rw [e] at hg
    cases hg
    subst e
    rw [addr_add, Nat.zero_add, h.cellAt j (by omega)]
    simp [bVs, hx]
/-- The block of a slice is at least B, if it is read. -/
def From (B : Nat) (v : Value) (n : Nat) : Prop := ∀ ad m c, v = .slice (some ad) m c → 0 < n → B ≤ ad.block

/-- Bytes, seen, in new memory. -/
def NewB (w w' : World) (v : Value) (bs : List UInt8) : Prop := SeesB w' v bs ∧ From w.heap.size v bs.length

/-- Pairs that can be read. -/
def SeesP (w : World) (v : Value) (ps : List PairB) : Prop :=
  ∃ a cap, v = .slice a ps.length cap ∧ (a = none → ps = []) ∧ ∀ ad, a = some ad → ∀ (j : Nat) (p : PairB), ps[j]? = some p →
    ∃ k u, w.cell? (ad.add (j * 2)) = some k ∧ w.cell? (ad.add (j * 2 + 1)) = some u ∧ SeesB w k p.1 ∧ SeesB w u p.2
theorem SeesP.chg0 {w w' : World} {v : Value} {ps : List PairB} (h : SeesP w v ps) (hc : Chg (fun _ => False) w w') : SeesP w' v ps := by
  obtain ⟨a, cap, rfl, h1, h2⟩ := h
  refine ⟨a, cap, rfl, h1, fun ad e j p hp => ?_⟩
  obtain ⟨k, u, hk, hu, hk2, hu2⟩ := h2 ad e j p hp
  exact ⟨k, u, cell_chg hc hk (fun f => f), cell_chg hc hu (fun f => f), hk2.chg0 hc, hu2.chg0 hc⟩

/-- The cells of pairs. -/
def pCells (vs : List (Value × Value)) : List Value := vs.flatMap fun x => [x.1, x.2]
theorem pCells_length (vs : List (Value × Value)) : (pCells vs).length = vs.length * 2 := by
  induction vs with
  | nil => rfl
  | cons x vs ih => simp only [pCells, List.flatMap_cons, List.length_append, List.length_cons, List.length_nil] at ih ⊢; omega
theorem pCells_snoc (vs : List (Value × Value)) (x : Value × Value) : pCells (vs ++ [x]) = pCells vs ++ [x.1, x.2] := by simp [pCells]
theorem pCells_get : ∀ (vs : List (Value × Value)) (j : Nat) (x : Value × Value), vs[j]? = some x → (pCells vs)[j * 2]? = some x.1 ∧ (pCells vs)[j * 2 + 1]? = some x.2
  | [], j, x, h => by simp at h
  | y :: vs, 0, x, h => by simp at h; subst h; exact ⟨rfl, rfl⟩
  | y :: vs, j + 1, x, h => by
    have := pCells_get vs j x (by simpa using h)
    have e1 : (j + 1) * 2 = j * 2 + 1 + 1 := by omega
    rw [e1]
    simpa [pCells] using this

/-- A row of pairs of one's own. -/
structure RowP (w : World) (B : Nat) (v : Value) (vs : List (Value × Value)) (ps : List PairB) : Prop where
  row : w.ownsRow B 54 2 v ps.length (pCells vs)
  len : vs.length = ps.length
  sees : ∀ (j : Nat) x p, vs[j]? = some x → ps[j]? = some p → SeesB w x.1 p.1 ∧ SeesB w x.2 p.2
theorem RowP.seesP {w : World} {B : Nat} {v : Value} {vs : List (Value × Value)} {ps : List PairB} (h : RowP w B v vs ps) : SeesP w v ps := by
  obtain ⟨a, cap, rfl, _, _, hg⟩ := ownsRow_slice h.row
  refine ⟨a, cap, rfl, fun e => ?_, fun ad e j p hp => ?_⟩
  · by_cases h0 : 0 < ps.length
    · obtain ⟨g, hg⟩ := hg h0
      rw [e] at hg; cases hg
    · exact List.eq_nil_of_length_eq_zero (by omega)
  · have hj := (List.getElem?_eq_some_iff.1 hp).1
    obtain ⟨g, hg⟩ := hg (by omega)
    rw [e] at hg
    cases hg
    subst e
    obtain ⟨x, hx⟩ : ∃ x, vs[j]? = some x := ⟨_, List.getElem?_eq_getElem (by rw [h.len]; exact hj)⟩
    obtain ⟨h1, h2⟩ := pCells_get vs j x hx
    obtain ⟨h3, h4⟩ := h.sees j x p hx hp
    refine ⟨x.1, x.2, ?_, ?_, h3, h4⟩
    · rw [addr_add, Nat.zero_add, h.row.cellAt (j * 2) (by omega), h1]
    · rw [addr_add, Nat.zero_add, h.row.cellAt (j * 2 + 1) (by omega), h2]
end Go.Proofs.YteejkkidnohcfaaGreatDoor
