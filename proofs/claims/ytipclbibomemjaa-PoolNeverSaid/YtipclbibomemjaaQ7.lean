/- A law's list of turns, opened. -/
import Derived.Test.YtipclbibomemjaaQ5
import Derived.Test.YtipclbibomemjaaN13
namespace Go.Proofs.Ytipclbibomemjaa
open Go Go.RowKit Go.Maps
open Go.ChangeShapes Go.WideShapes Go.Deep

theorem cells44 : Try.prog.cellsOf 44 = 4 := by kernel_rfl
instance : Inhabited Turn := ⟨⟨0, 0, 0, 0⟩⟩
section
variable {H : Type} {enc : TypeId × Value → H} {w : World} {base : Nat} {spare : Nat → Bool} {held : Bool}
theorem turn_addr {a : Addr} {v : Value} (h : w.cell? (a.add 0) = some v) : a = ⟨a.block, a.off, none⟩ := by
  have e : a.add 0 = a := by simp [Addr.add]
  rw [e] at h
  obtain ⟨b, o, s⟩ := a
  cases s with
  | none => rfl
  | some s =>
    unfold World.cell? at h
    split at h <;> simp at h
def TurnCells (w : World) (a : Addr) (t : Turn) : Prop :=
  w.cell? (a.add 0) = some (.int .i64 t.want) ∧ w.cell? (a.add 1) = some (.int .i64 t.give) ∧ w.cell? (a.add 2) = some (.int .i64 t.pin) ∧ w.cell? (a.add 3) = some (.int .i64 t.unpin) ∧ t.ok

set_option maxRecDepth 100000 in
theorem open_turn {a : Addr} {cs : List Value} {fuel : Nat} {x : DataW H × List MemPlace} (hc : w.cells? base a 4 = some cs) (h : DataW.trod enc Try.prog w base spare held fuel 44 cs = some x) :
    ∃ t, TurnCells w a t := by
  have hu := Try.underlying44
  obtain ⟨ys, n', hn', hy, hlen, hyl, hf⟩ := DataW.trod_struct hu h
  obtain ⟨_, hcl, hat⟩ := World.cells?_some hc
  match cs, hcl with
  | [c0, c1, c2, c3], _ =>
    match ys, hyl with
    | [y0, y1, y2, y3], _ =>
      have h0 : DataW.trod enc Try.prog w base spare held n' 3 (([c0, c1, c2, c3].drop 0).take (Try.prog.cellsOf 3)) = [y0, y1, y2, y3][0]? := hf 0 _ rfl
      have h1 : DataW.trod enc Try.prog w base spare held n' 3 (([c0, c1, c2, c3].drop 1).take (Try.prog.cellsOf 3)) = [y0, y1, y2, y3][1]? := hf 1 _ rfl
      have h2 : DataW.trod enc Try.prog w base spare held n' 3 (([c0, c1, c2, c3].drop 2).take (Try.prog.cellsOf 3)) = [y0, y1, y2, y3][2]? := hf 2 _ rfl
      have h3 : DataW.trod enc Try.prog w base spare held n' 3 (([c0, c1, c2, c3].drop 3).take (Try.prog.cellsOf 3)) = [y0, y1, y2, y3][3]? := hf 3 _ rfl
      simp only [cells3, List.drop_zero, List.drop_succ_cons, List.take_succ_cons, List.take_zero, List.getElem?_cons_zero, List.getElem?_cons_succ] at h0 h1 h2 h3
      obtain ⟨n0, e0, _, w0⟩ := DataW.trod_int Try.underlying3 h0
      obtain ⟨n1, e1, _, _⟩ := DataW.trod_int Try.underlying3 h1
      obtain ⟨n2, e2, _, w2⟩ := DataW.trod_int Try.underlying3 h2
      obtain ⟨n3, e3, _, w3⟩ := DataW.trod_int Try.underlying3 h3
      simp only [List.cons.injEq, and_true] at e0 e1 e2 e3
      subst e0 e1 e2 e3
      exact ⟨⟨n0, n1, n2, n3⟩, hat 0 (by omega), hat 1 (by omega), hat 2 (by omega), hat 3 (by omega), ⟨w0, w2, w3⟩⟩

set_option maxRecDepth 100000 in
theorem open_turns {v : Value} {d : DataW H} {p : List MemPlace} (hv : Value.okWide Try.prog w .any base 38 v) (h : DataW.Trod enc Try.prog w 0 spare held 38 v d p) :
    ∃ ts, TurnsA w v ts ∧ ts.length ≤ 9223372036854775807 := by
  obtain ⟨a, len, cap, rfl⟩ := okWide_slice Try.underlying38 hv
  obtain ⟨fuel, hf⟩ := h
  rcases open_slice Try.underlying38 hf with ⟨hcs, _⟩ | ⟨x, l, c, m, n, D, Pl, hcs, _, hl, hm, hmm, hd, hi⟩
  · simp [Value.cells] at hcs
    obtain ⟨rfl, rfl, rfl⟩ := hcs
    exact ⟨[], ⟨none, 0, rfl, fun h => by simp at h⟩, Nat.zero_le _⟩
  · simp [Value.cells] at hcs
    obtain ⟨rfl, rfl, rfl⟩ := hcs
    have hlm : len ≤ m := by rw [hmm]; split <;> omega
    have hlx : len ≤ 9223372036854775807 := by unfold maxLen at hm; omega
    have hop : ∀ i, i < len → ∃ t, TurnCells w (x.add (i * 4)) t := fun i hilt => by
      obtain ⟨cs', hc, ht⟩ := hi i (by omega)
      rw [cells44] at hc
      exact open_turn hc ht
    obtain ⟨O, hO⟩ := choose_lt hop
    have hget : ∀ i t, ((List.range len).map O)[i]? = some t → i < len ∧ O i = t := fun i t ho => by
      have hilt : i < len := by have := (List.getElem?_eq_some_iff.1 ho).1; simpa using this
      rw [List.getElem?_map, List.getElem?_range hilt] at ho
      exact ⟨hilt, by simpa using ho⟩
    by_cases hpos : 0 < len
    · obtain ⟨h0, _⟩ := hO 0 hpos
      rw [Nat.zero_mul, Go.Deep.add_add] at h0
      have hx0 : x.spot = none := congrArg Addr.spot (turn_addr h0)
      obtain ⟨g, off, s⟩ := x
      obtain rfl : s = none := hx0
      refine ⟨(List.range len).map O, ⟨_, cap, by rw [List.length_map, List.length_range], fun _ => ⟨g, off, rfl, fun i o ho => ?_⟩⟩, by rw [List.length_map, List.length_range]; exact hlx⟩
      obtain ⟨hilt, rfl⟩ := hget i o ho
      have := hO i hilt
      unfold TurnCells at this
      simp only [addr_add, Nat.add_zero] at this
      exact this
    · obtain rfl : len = 0 := by omega
      exact ⟨[], ⟨some x, cap, rfl, fun h => by simp at h⟩, Nat.zero_le _⟩
end
theorem never_any (w : World) (count cap : Int) (v : Value) (ts : List Turn) (hs : TurnsA w v ts) (hol : ts.length ≤ 9223372036854775807) :
    Calls Try.prog 5 #[.int .i64 count, .int .i64 cap, v] w fun e w' => e = .returned (.bool true) ∧ Below w.heap.size w w' := by
  by_cases h : never0 count cap
  · exact never_go w count cap v ts h hs hol
  · exact never_few w count cap v h
end Go.Proofs.Ytipclbibomemjaa
