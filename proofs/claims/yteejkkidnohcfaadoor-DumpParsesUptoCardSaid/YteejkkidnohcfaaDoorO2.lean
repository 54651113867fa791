/- A law's list of edits, opened: a slice of structs of two numbers and a string. -/
import Derived.Test.YteejkkidnohcfaaDoorO1
namespace Go.Proofs.YteejkkidnohcfaaDoor
open Go Go.RowKit Go.Maps
open Go.ChangeShapes Go.WideShapes Go.Deep

section
variable {H : Type} {enc : TypeId × Value → H} {P : Program} {w : World} {base : Nat} {spare : Nat → Bool} {held : Bool}

theorem open_slice_triples {t e : TypeId} {f0 f1 f2 : Field} {fuel : Nat} {cs : List Value} {x : DataW H × List MemPlace} (ht : P.underlying t = some (.slice e)) (he : P.underlying e = some (.struct #[f0, f1, f2]))
    (ce : P.cellsOf e = 3) (o0 : f0.offset = 0) (o1 : f1.offset = 1) (o2 : f2.offset = 2) (c0 : P.cellsOf f0.type = 1) (c1 : P.cellsOf f1.type = 1) (c2 : P.cellsOf f2.type = 1)
    (h : DataW.trod enc P w base spare held fuel t cs = some x) :
    cs = [.slice none 0 0] ∨
    ∃ (a : Addr) (len cap n : Nat) (V0 V1 V2 : Nat → Value) (X0 X1 X2 : Nat → DataW H × List MemPlace), cs = [.slice (some a) len cap] ∧ len ≤ cap ∧ cap ≤ maxLen ∧
      ∀ i, i < len → w.cell? (a.add (i * 3)) = some (V0 i) ∧ w.cell? (a.add (i * 3 + 1)) = some (V1 i) ∧ w.cell? (a.add (i * 3 + 2)) = some (V2 i) ∧
        DataW.trod enc P w base spare held n f0.type [V0 i] = some (X0 i) ∧ DataW.trod enc P w base spare held n f1.type [V1 i] = some (X1 i) ∧ DataW.trod enc P w base spare held n f2.type [V2 i] = some (X2 i) := by
  rcases open_slice ht h with h0 | ⟨a, len, cap, m, n, D, Pl, rfl, hb, hl, hm, hmm, rfl, hx⟩
  · exact Or.inl h0.1
  right
  have hlm : len ≤ m := by rw [hmm]; split <;> omega
  have each : ∀ i, i < len → ∃ q : (Value × Value × Value) × (DataW H × List MemPlace) × (DataW H × List MemPlace) × (DataW H × List MemPlace), w.cell? (a.add (i * 3)) = some q.1.1 ∧ w.cell? (a.add (i * 3 + 1)) = some q.1.2.1 ∧ w.cell? (a.add (i * 3 + 2)) = some q.1.2.2 ∧
      DataW.trod enc P w base spare held (n - 1) f0.type [q.1.1] = some q.2.1 ∧ DataW.trod enc P w base spare held (n - 1) f1.type [q.1.2.1] = some q.2.2.1 ∧ DataW.trod enc P w base spare held (n - 1) f2.type [q.1.2.2] = some q.2.2.2 := by
    intro i hi
    obtain ⟨cs', h1, h2⟩ := hx i (by omega)
    rw [ce] at h1
    obtain ⟨_, hlen, hcell⟩ := World.cells?_some h1
    obtain ⟨xs, k, hk, hxy, _, hxl, hf⟩ := DataW.trod_struct he h2
    have hk' : k = n - 1 := by omega
    subst hk'
    match xs, hxl, cs', hlen with
    | [y0, y1, y2], _, [v0, v1, v2], _ =>
      have g0 := hf 0 f0 rfl
      have g1 := hf 1 f1 rfl
      have g2 := hf 2 f2 rfl
      simp [o0, o1, o2, c0, c1, c2] at g0 g1 g2
      have e0 := hcell 0 (by omega)
      have e1 := hcell 1 (by omega)
      have e2 := hcell 2 (by omega)
      rw [Go.Deep.add_add] at e0 e1 e2
      exact ⟨((v0, v1, v2), y0, y1, y2), by simpa using e0, by simpa using e1, by simpa using e2, g0, g1, g2⟩
  obtain ⟨q, hq⟩ := choose_lt each
  exact ⟨a, len, cap, n - 1, fun i => (q i).1.1, fun i => (q i).1.2.1, fun i => (q i).1.2.2, fun i => (q i).2.1, fun i => (q i).2.2.1, fun i => (q i).2.2.2, rfl, hl, hm, fun i hi => hq i hi⟩
end

/-- Edits that can be read. -/
def SeesE (w : World) (v : Value) (es : List (Int × Int × ByteArray)) : Prop :=
  ∃ a cap, v = .slice a es.length cap ∧ (a = none → es = []) ∧ ∀ ad, a = some ad → ∀ (j : Nat) (e : Int × Int × ByteArray), es[j]? = some e →
    w.cell? (ad.add (j * 3)) = some (.int .i64 e.1) ∧ w.cell? (ad.add (j * 3 + 1)) = some (.int .i64 e.2.1) ∧ w.cell? (ad.add (j * 3 + 2)) = some (.string e.2.2)
theorem SeesE.chg0 {w w' : World} {v : Value} {es : List (Int × Int × ByteArray)} (h : SeesE w v es) (hc : Chg (fun _ => False) w w') : SeesE w' v es := by
  obtain ⟨a, cap, rfl, h1, h2⟩ := h
  refine ⟨a, cap, rfl, h1, fun ad e j p hp => ?_⟩
  obtain ⟨k0, k1, k2⟩ := h2 ad e j p hp
  exact ⟨cell_chg hc k0 (fun f => f), cell_chg hc k1 (fun f => f), cell_chg hc k2 (fun f => f)⟩
theorem cells72 : Tryd.prog.cellsOf 72 = 3 := by kernel_rfl
set_option maxRecDepth 100000 in
theorem open_edits {H : Type} {enc : TypeId × Value → H} {w : World} {base : Nat} {spare : Nat → Bool} {held : Bool} {v : Value} {fuel : Nat} {x : DataW H × List MemPlace} (hf : DataW.trod enc Tryd.prog w base spare held fuel 46 [v] = some x) :
    ∃ es : List (Int × Int × ByteArray), SeesE w v es ∧ es.length ≤ maxLen := by
  rcases open_slice_triples Tryd.underlying46 Tryd.underlying72 cells72 rfl rfl rfl (by kernel_rfl) (by kernel_rfl) (by kernel_rfl) hf with hcs | ⟨a, len, cap, n, V0, V1, V2, X0, X1, X2, hcs, hl, hm, hi⟩
  · simp only [List.cons.injEq, and_true] at hcs
    subst hcs
    exact ⟨[], ⟨none, 0, rfl, fun _ => rfl, fun ad e => (by cases e)⟩, Nat.zero_le _⟩
  · simp only [List.cons.injEq, and_true] at hcs
    subst hcs
    have each : ∀ i, i < len → ∃ p : Int × Int × ByteArray, V0 i = .int .i64 p.1 ∧ V1 i = .int .i64 p.2.1 ∧ V2 i = .string p.2.2 := fun i hilt => by
      obtain ⟨_, _, _, t0, t1, t2⟩ := hi i hilt
      obtain ⟨n0, e0, _, _⟩ := DataW.trod_int Tryd.underlying3 t0
      obtain ⟨n1, e1, _, _⟩ := DataW.trod_int Tryd.underlying3 t1
      obtain ⟨s2, e2, _, _⟩ := DataW.trod_string Tryd.underlying9 t2
      simp only [List.cons.injEq, and_true] at e0 e1 e2
      exact ⟨(n0, n1, s2), e0, e1, e2⟩
    obtain ⟨f, hf⟩ := choose_lt each
    refine ⟨(List.range len).map f, ⟨some a, cap, by rw [List.length_map, List.length_range], fun e => (by cases e), fun ad e j y hy => ?_⟩, by rw [List.length_map, List.length_range]; omega⟩
    cases e
    have hilt : j < len := by have := (List.getElem?_eq_some_iff.1 hy).1; simpa using this
    rw [List.getElem?_map, List.getElem?_range hilt, Option.map_some] at hy
    cases hy
    obtain ⟨k0, k1, k2, _⟩ := hi j hilt
    obtain ⟨e0, e1, e2⟩ := hf j hilt
    rw [e0] at k0; rw [e1] at k1; rw [e2] at k2
    exact ⟨k0, k1, k2⟩
end Go.Proofs.YteejkkidnohcfaaDoor
