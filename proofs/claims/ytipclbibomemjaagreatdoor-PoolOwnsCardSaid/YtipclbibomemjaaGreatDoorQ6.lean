/- A law's script of calls, opened. -/
import Derived.Test.YtipclbibomemjaaGreatDoorQ5
import Derived.Test.YtipclbibomemjaaGreatDoorZ1
namespace Go.Proofs.YtipclbibomemjaaGreatDoor
open Go Go.RowKit Go.Maps
open Go.ChangeShapes Go.WideShapes Go.Deep

theorem SeesI.slice {w : World} {v : Value} {zs : List Int} (h : SeesI w v zs) : ∃ a c, v = .slice a zs.length c := by
  obtain ⟨a, c, rfl, _⟩ := h
  exact ⟨a, c, rfl⟩
theorem cells22 : Tryz.prog.cellsOf 22 = 1 := by kernel_rfl
theorem cells4 : Tryz.prog.cellsOf 4 = 1 := by kernel_rfl
theorem cells35 : Tryz.prog.cellsOf 48 = 5 := by kernel_rfl
instance : Inhabited OpD := ⟨⟨0, 0, 0, [], false⟩⟩

section
variable {H : Type} {enc : TypeId × Value → H} {w : World} {base : Nat} {spare : Nat → Bool} {held : Bool}
theorem addr_plain {a : Addr} {v : Value} (h : w.cell? a = some v) : a = ⟨a.block, a.off, none⟩ := by
  obtain ⟨b, o, s⟩ := a
  cases s with
  | none => rfl
  | some s =>
    unfold World.cell? at h
    split at h <;> simp at h
theorem addr_head {a : Addr} {v : Value} (h : w.cell? (a.add 0) = some v) : a = ⟨a.block, a.off, none⟩ := by
  have e : a.add 0 = a := by simp [Addr.add]
  rw [e] at h
  exact addr_plain h

/-- What one call's cells are. -/
def OpCells (w : World) (a : Addr) (o : OpD) : Prop := ∃ ga gc,
  w.cell? (a.add 0) = some (.int .i64 o.kind) ∧ w.cell? (a.add 1) = some (.int .i64 o.a) ∧ w.cell? (a.add 2) = some (.int .i64 o.b) ∧ w.cell? (a.add 3) = some (.slice ga o.gone.length gc) ∧
  w.cell? (a.add 4) = some (.bool o.second) ∧ SeesI w (.slice ga o.gone.length gc) o.gone ∧ o.ok

set_option maxRecDepth 100000 in
theorem open_op {a : Addr} {cs : List Value} {fuel : Nat} {x : DataW H × List MemPlace} (hc : w.cells? base a 5 = some cs) (h : DataW.trod enc Tryz.prog w base spare held fuel 48 cs = some x) :
    ∃ o, OpCells w a o := by
  have hu := Tryz.underlying48
  obtain ⟨ys, n', hn', hy, hlen, hyl, hf⟩ := DataW.trod_struct hu h
  obtain ⟨_, hcl, hat⟩ := World.cells?_some hc
  match cs, hcl with
  | [c0, c1, c2, c3, c4], _ =>
    match ys, hyl with
    | [y0, y1, y2, y3, y4], _ =>
      have h0 : DataW.trod enc Tryz.prog w base spare held n' 3 (([c0, c1, c2, c3, c4].drop 0).take (Tryz.prog.cellsOf 3)) = [y0, y1, y2, y3, y4][0]? := hf 0 _ rfl
      have h1 : DataW.trod enc Tryz.prog w base spare held n' 3 (([c0, c1, c2, c3, c4].drop 1).take (Tryz.prog.cellsOf 3)) = [y0, y1, y2, y3, y4][1]? := hf 1 _ rfl
      have h2 : DataW.trod enc Tryz.prog w base spare held n' 3 (([c0, c1, c2, c3, c4].drop 2).take (Tryz.prog.cellsOf 3)) = [y0, y1, y2, y3, y4][2]? := hf 2 _ rfl
      have h3 : DataW.trod enc Tryz.prog w base spare held n' 22 (([c0, c1, c2, c3, c4].drop 3).take (Tryz.prog.cellsOf 22)) = [y0, y1, y2, y3, y4][3]? := hf 3 _ rfl
      have h4 : DataW.trod enc Tryz.prog w base spare held n' 4 (([c0, c1, c2, c3, c4].drop 4).take (Tryz.prog.cellsOf 4)) = [y0, y1, y2, y3, y4][4]? := hf 4 _ rfl
      simp only [cells3, cells22, cells4, List.drop_zero, List.drop_succ_cons, List.take_succ_cons, List.take_zero, List.getElem?_cons_zero, List.getElem?_cons_succ] at h0 h1 h2 h3 h4
      obtain ⟨n0, e0, _, _⟩ := DataW.trod_int Tryz.underlying3 h0
      obtain ⟨n1, e1, _, w1⟩ := DataW.trod_int Tryz.underlying3 h1
      obtain ⟨n2, e2, _, w2⟩ := DataW.trod_int Tryz.underlying3 h2
      obtain ⟨b4, e4, _⟩ := DataW.trod_bool Tryz.underlying4 h4
      simp only [List.cons.injEq, and_true] at e0 e1 e2 e4
      subst e0 e1 e2 e4
      obtain ⟨zs, k3, k4, _⟩ := open_ints h3
      obtain ⟨ga, gc, rfl⟩ := k3.slice
      exact ⟨⟨n0, n1, n2, zs, b4⟩, ga, gc, hat 0 (by omega), hat 1 (by omega), hat 2 (by omega), hat 3 (by omega), hat 4 (by omega), k3, ⟨w1, w2, k4⟩⟩

set_option maxRecDepth 100000 in
theorem open_ops {v : Value} {d : DataW H} {p : List MemPlace} (hv : Value.okWide Tryz.prog w .any base 23 v) (h : DataW.Trod enc Tryz.prog w 0 spare held 23 v d p) :
    ∃ os, OpsA w v os ∧ os.length ≤ 9223372036854775807 := by
  obtain ⟨a, len, cap, rfl⟩ := okWide_slice Tryz.underlying23 hv
  obtain ⟨fuel, hf⟩ := h
  rcases open_slice Tryz.underlying23 hf with ⟨hcs, _⟩ | ⟨x, l, c, m, n, D, Pl, hcs, _, hl, hm, hmm, hd, hi⟩
  · simp [Value.cells] at hcs
    obtain ⟨rfl, rfl, rfl⟩ := hcs
    exact ⟨[], ⟨none, 0, rfl, fun h => by simp at h⟩, Nat.zero_le _⟩
  · simp [Value.cells] at hcs
    obtain ⟨rfl, rfl, rfl⟩ := hcs
    have hlm : len ≤ m := by rw [hmm]; split <;> omega
    have hlx : len ≤ 9223372036854775807 := by unfold maxLen at hm; omega
    have hop : ∀ i, i < len → ∃ o, OpCells w (x.add (i * 5)) o := fun i hilt => by
      obtain ⟨cs', hc, ht⟩ := hi i (by omega)
      rw [cells35] at hc
      exact open_op hc ht
    obtain ⟨O, hO⟩ := choose_lt hop
    have hget : ∀ i o, ((List.range len).map O)[i]? = some o → i < len ∧ O i = o := fun i o ho => by
      have hilt : i < len := by have := (List.getElem?_eq_some_iff.1 ho).1; simpa using this
      rw [List.getElem?_map, List.getElem?_range hilt] at ho
      exact ⟨hilt, by simpa using ho⟩
    by_cases hpos : 0 < len
    · obtain ⟨_, _, h0, _⟩ := hO 0 hpos
      rw [Nat.zero_mul, Go.Deep.add_add] at h0
      have hx0 : x.spot = none := congrArg Addr.spot (addr_head h0)
      obtain ⟨g, off, s⟩ := x
      obtain rfl : s = none := hx0
      refine ⟨(List.range len).map O, ⟨_, cap, by rw [List.length_map, List.length_range], fun _ => ⟨g, off, rfl, fun i o ho => ?_⟩⟩, by rw [List.length_map, List.length_range]; exact hlx⟩
      obtain ⟨hilt, rfl⟩ := hget i o ho
      have := hO i hilt
      unfold OpCells at this
      simp only [addr_add, Nat.add_zero] at this
      exact this
    · obtain rfl : len = 0 := by omega
      exact ⟨[], ⟨some x, cap, rfl, fun h => by simp at h⟩, Nat.zero_le _⟩
end
end Go.Proofs.YtipclbibomemjaaGreatDoor
