/- The law DiskPlays: what it is handed, opened. -/
import Derived.Test.YtckioocahmbhkaaP13
import Derived.SizedLaws
import Derived.OpenShut
namespace Go.Proofs.Ytckioocahmbhkaa
open Go Go.RowKit Go.Maps Go.MuLone
open Go.ChangeShapes Go.WideShapes Go.Deep

theorem cells5 : Try.prog.cellsOf 5 = 1 := by kernel_rfl
theorem bytes49 : Try.prog.bytesOf 49 = 16 := by kernel_rfl
theorem cells3 : Try.prog.cellsOf 3 = 1 := by kernel_rfl
theorem cells27 : Try.prog.cellsOf 27 = 1 := by kernel_rfl
theorem cells45 : Try.prog.cellsOf 45 = 1 := by kernel_rfl
theorem cells66 : Try.prog.cellsOf 66 = 7 := by kernel_rfl

section
variable {H : Type} {P : Program}
theorem weights_elem {t e : TypeId} {elems sp : List (DataW H)} {i : Nat} {d : DataW H} (hu : P.underlying t = some (.slice e)) (hi : elems[i]? = some d) : ∀ n ∈ d.weights P e, n ∈ (DataW.slice elems sp).weights P t := by
  intro n hn
  have key : ∀ (l : List (DataW H)) (i : Nat), l[i]? = some d → n ∈ DataW.weightsAll P e l := by
    intro l
    induction l with
    | nil => intro i h; simp at h
    | cons x l ih =>
      intro i h
      cases i with
      | zero => simp at h; subst h; simp [DataW.weightsAll, hn]
      | succ i => simp at h; simp [DataW.weightsAll, ih i h]
  simp [DataW.weights, hu, key elems i hi]
theorem weights_field {e : TypeId} {fs : Array Field} {parts : List (DataW H)} {j : Nat} {f : Field} {d : DataW H} (hu : P.underlying e = some (.struct fs)) (hf : fs[j]? = some f) (hd : parts[j]? = some d) : ∀ n ∈ d.weights P f.type, n ∈ (DataW.agg parts).weights P e := by
  intro n hn
  simp only [DataW.weights, hu]
  exact DataW.weights_mem_each (j := j) (by simp [hf]) hd n hn
end

section
variable {H : Type} {enc : TypeId × Value → H} {w : World} {base : Nat} {spare : Nat → Bool} {held : Bool}

set_option maxRecDepth 100000 in
theorem open_bytes2 {v : Value} {fuel : Nat} {x : DataW H × List MemPlace} (hf : DataW.trod enc Try.prog w base spare held fuel 27 [v] = some x) :
    ∃ bs, SeesB w v bs ∧ (∀ m c, v = .slice none m c → c = 0) ∧ ∀ a n c, v = .slice a n c → n ≤ c ∧ c ≤ maxLen := by
  rcases open_slice1 Try.underlying27 cells5 hf with ⟨hcs, _⟩ | ⟨x, len, cap, m, n, V, D, Pl, hcs, _, hl, hm, hmm, hd, hi⟩
  · simp only [List.cons.injEq, and_true] at hcs
    subst hcs
    exact ⟨[], ⟨none, 0, rfl, fun _ => rfl, fun ad e => (by cases e)⟩, fun m c e => (by cases e; rfl), fun a n c e => (by cases e; exact ⟨Nat.le_refl _, Nat.zero_le _⟩)⟩
  · simp only [List.cons.injEq, and_true] at hcs
    subst hcs
    have hlm : len ≤ m := by rw [hmm]; split <;> omega
    have hcell : ∀ i, i < len → ∃ y : UInt8, w.cell? (x.add i) = some (bV y) := fun i hilt => by
      obtain ⟨hc, ht⟩ := hi i (by omega)
      obtain ⟨n1, e1, _, w1⟩ := DataW.trod_int Try.underlying5 ht
      simp only [List.cons.injEq, and_true] at e1
      have hb := bounds_u8 w1
      refine ⟨UInt8.ofNat n1.toNat, ?_⟩
      rw [hc, e1]
      unfold bV
      have : ((UInt8.ofNat n1.toNat).toNat : Int) = n1 := by rw [UInt8.toNat_ofNat']; omega
      rw [this]
    refine ⟨(List.range len).map (fun i => match w.cell? (x.add i) with | some (.int _ n) => UInt8.ofNat n.toNat | _ => 0), ⟨some x, cap, by rw [List.length_map, List.length_range], fun e => (by cases e), fun ad e j y hy => ?_⟩, fun m c e => (by cases e), fun a n c e => (by cases e; exact ⟨hl, hm⟩)⟩
    cases e
    have hilt : j < len := by have := (List.getElem?_eq_some_iff.1 hy).1; simpa using this
    obtain ⟨y', hc⟩ := hcell j hilt
    rw [List.getElem?_map, List.getElem?_range hilt, Option.map_some, hc] at hy
    cases hy
    rw [hc]
    unfold bV
    congr 1
    show Value.int .u8 _ = Value.int .u8 ((UInt8.ofNat (Int.toNat (y'.toNat : Int))).toNat : Int)
    rw [Int.toNat_natCast, UInt8.ofNat_toNat]

set_option maxRecDepth 100000 in
theorem open_fates2 {v : Value} {fuel : Nat} {x : DataW H × List MemPlace} (hf : DataW.trod enc Try.prog w base spare held fuel 45 [v] = some x) (hN : ∀ el sp, x.1 = .slice el sp → (el.length + sp.length) * 16 ≤ 140737488351232) :
    ∃ ps, FatesA w v ps := by
  have hlen : ∀ a len cap, v = .slice a len cap → len * 16 ≤ 140737488351232 := fun a len cap e => by
    subst e
    rcases open_slice Try.underlying45 hf with ⟨hcs, _⟩ | ⟨x', l, c, m, n, D, Pl, hcs, _, hl, hm, hmm, hd, hi⟩
    · simp only [List.cons.injEq, and_true, Value.slice.injEq] at hcs
      omega
    · simp only [List.cons.injEq, and_true, Value.slice.injEq] at hcs
      obtain ⟨rfl, rfl, rfl⟩ := hcs
      have := hN _ _ (by rw [hd])
      simp only [List.length_map, List.length_range] at this
      omega
  rcases open_pairs Try.underlying45 Try.underlying49 (by kernel_rfl) cells49 hf with ⟨hcs, _⟩ | ⟨x, len, cap, hcs, hl, hm, hi⟩
  · simp only [List.cons.injEq, and_true] at hcs
    subst hcs
    exact ⟨[], none, 0, rfl, by simp, fun h => by simp at h⟩
  · simp only [List.cons.injEq, and_true] at hcs
    subst hcs
    have hcell : ∀ i, i < len → ∃ (n m : Int), w.cell? (x.add (i * 2)) = some (.int .i64 n) ∧ w.cell? (x.add (i * 2 + 1)) = some (.int .i64 m) := fun i hilt => by
      obtain ⟨v0, v1, y0, y1, n, g0, g1, t0, t1⟩ := hi i hilt
      obtain ⟨n0, e0, _, _⟩ := DataW.trod_int Try.underlying3 t0
      obtain ⟨n1, e1, _, _⟩ := DataW.trod_int Try.underlying3 t1
      simp only [List.cons.injEq, and_true] at e0 e1
      subst e0 e1
      exact ⟨n0, n1, g0, g1⟩
    refine ⟨(List.range len).map (fun i => (match w.cell? (x.add (i * 2)) with | some (.int _ n) => n | _ => 0, match w.cell? (x.add (i * 2 + 1)) with | some (.int _ n) => n | _ => 0)), some x, cap, by rw [List.length_map, List.length_range], by rw [List.length_map, List.length_range]; exact hlen _ _ _ rfl, fun hpos => ?_⟩
    rw [List.length_map, List.length_range] at hpos
    obtain ⟨n0, m0, hb0, _⟩ := hcell 0 hpos
    rw [Nat.zero_mul] at hb0
    have hx0 : x.spot = none := congrArg Addr.spot (addr_head hb0)
    obtain ⟨g, o, s⟩ := x
    obtain rfl : s = none := hx0
    refine ⟨g, o, rfl, fun i y hy => ?_⟩
    have hilt : i < len := by have := (List.getElem?_eq_some_iff.1 hy).1; simpa using this
    obtain ⟨n', m', g0, g1⟩ := hcell i hilt
    rw [List.getElem?_map, List.getElem?_range hilt, Option.map_some, g0, g1] at hy
    rw [addr_add] at g0 g1
    cases hy
    refine ⟨g0, ?_⟩
    rw [Nat.add_assoc]
    exact g1

instance : Inhabited OpD := ⟨⟨0, 0, 0, 0, 0, [], []⟩⟩

/-- What one call's cells are. -/
def OpCells (w : World) (a : Addr) (o : OpD) : Prop := ∃ dv fv,
  w.cell? (a.add 0) = some (.int .i64 o.kind) ∧ w.cell? (a.add 1) = some (.int .i64 o.i) ∧ w.cell? (a.add 2) = some (.int .i64 o.at') ∧ w.cell? (a.add 3) = some (.int .i64 o.x) ∧
  w.cell? (a.add 4) = some (.int .u8 o.fill.toNat) ∧ w.cell? (a.add 5) = some dv ∧ w.cell? (a.add 6) = some fv ∧ SeesB w dv o.data ∧ FatesA w fv o.fates ∧ o.i ≤ 9223372036854775807 ∧ ∀ m c, dv = .slice none m c → c = 0

set_option maxRecDepth 100000 in
theorem open_op {a : Addr} {cs : List Value} {fuel : Nat} {x : DataW H × List MemPlace} (hc : w.cells? base a 7 = some cs) (h : DataW.trod enc Try.prog w base spare held fuel 66 cs = some x) (hN : ∀ n ∈ x.1.weights Try.prog 66, n ≤ 140737488351232) :
    ∃ o, OpCells w a o := by
  have hu := Try.underlying66
  obtain ⟨ys, n', hn', hy, hlen, hyl, hf⟩ := DataW.trod_struct hu h
  obtain ⟨_, hcl, hat⟩ := World.cells?_some hc
  match cs, hcl with
  | [c0, c1, c2, c3, c4, c5, c6], _ =>
    match ys, hyl with
    | [y0, y1, y2, y3, y4, y5, y6], _ =>
      have h0 : DataW.trod enc Try.prog w base spare held n' 3 (([c0, c1, c2, c3, c4, c5, c6].drop 0).take (Try.prog.cellsOf 3)) = [y0, y1, y2, y3, y4, y5, y6][0]? := hf 0 _ rfl
      have h1 : DataW.trod enc Try.prog w base spare held n' 3 (([c0, c1, c2, c3, c4, c5, c6].drop 1).take (Try.prog.cellsOf 3)) = [y0, y1, y2, y3, y4, y5, y6][1]? := hf 1 _ rfl
      have h2 : DataW.trod enc Try.prog w base spare held n' 3 (([c0, c1, c2, c3, c4, c5, c6].drop 2).take (Try.prog.cellsOf 3)) = [y0, y1, y2, y3, y4, y5, y6][2]? := hf 2 _ rfl
      have h3 : DataW.trod enc Try.prog w base spare held n' 3 (([c0, c1, c2, c3, c4, c5, c6].drop 3).take (Try.prog.cellsOf 3)) = [y0, y1, y2, y3, y4, y5, y6][3]? := hf 3 _ rfl
      have h4 : DataW.trod enc Try.prog w base spare held n' 5 (([c0, c1, c2, c3, c4, c5, c6].drop 4).take (Try.prog.cellsOf 5)) = [y0, y1, y2, y3, y4, y5, y6][4]? := hf 4 _ rfl
      have h5 : DataW.trod enc Try.prog w base spare held n' 27 (([c0, c1, c2, c3, c4, c5, c6].drop 5).take (Try.prog.cellsOf 27)) = [y0, y1, y2, y3, y4, y5, y6][5]? := hf 5 _ rfl
      have h6 : DataW.trod enc Try.prog w base spare held n' 45 (([c0, c1, c2, c3, c4, c5, c6].drop 6).take (Try.prog.cellsOf 45)) = [y0, y1, y2, y3, y4, y5, y6][6]? := hf 6 _ rfl
      simp only [cells3, cells5, cells27, cells45, List.drop_zero, List.drop_succ_cons, List.take_succ_cons, List.take_zero, List.getElem?_cons_zero, List.getElem?_cons_succ] at h0 h1 h2 h3 h4 h5 h6
      obtain ⟨n0, e0, _, _⟩ := DataW.trod_int Try.underlying3 h0
      obtain ⟨n1, e1, _, w1⟩ := DataW.trod_int Try.underlying3 h1
      obtain ⟨n2, e2, _, _⟩ := DataW.trod_int Try.underlying3 h2
      obtain ⟨n3, e3, _, _⟩ := DataW.trod_int Try.underlying3 h3
      obtain ⟨n4, e4, _, w4⟩ := DataW.trod_int Try.underlying5 h4
      simp only [List.cons.injEq, and_true] at e0 e1 e2 e3 e4
      subst e0 e1 e2 e3 e4
      obtain ⟨bs, k5, k5n, _⟩ := open_bytes2 h5
      obtain ⟨fs, k6⟩ := open_fates2 h6 (fun el sp e => by
        have hp : x.1 = .agg (List.map (·.1) [y0, y1, y2, y3, y4, y5, y6]) := by rw [hy]
        have := hN ((el.length + sp.length) * 16) (by
          rw [hp]
          refine weights_field (j := 6) hu rfl (d := y6.1) rfl _ ?_
          rw [e]
          have hu45 := Try.underlying45
          simp [DataW.weights, hu45, bytes49])
        exact this)
      have hb := bounds_u8 w4
      have hw1 := bounds_i64 w1
      refine ⟨⟨n0, n1, n2, n3, UInt8.ofNat n4.toNat, bs, fs⟩, c5, c6, hat 0 (by omega), hat 1 (by omega), hat 2 (by omega), hat 3 (by omega), ?_, hat 5 (by omega), hat 6 (by omega), k5, k6, hw1.2, k5n⟩
      have e4 : ((UInt8.ofNat n4.toNat).toNat : Int) = n4 := by rw [UInt8.toNat_ofNat']; omega
      show _ = some (Value.int .u8 ((UInt8.ofNat n4.toNat).toNat : Int))
      rw [e4]
      exact hat 4 (by omega)

set_option maxRecDepth 100000 in
theorem open_ops {v : Value} {d : DataW H} {p : List MemPlace} (hv : Value.okWide Try.prog w .any base 55 v) (h : DataW.Trod enc Try.prog w 0 spare held 55 v d p) (hN : ∀ n ∈ d.weights Try.prog 55, n ≤ 140737488351232) :
    ∃ os, OpsA w v os ∧ OpsNil w v := by
  obtain ⟨a, len, cap, rfl⟩ := okWide_slice Try.underlying55 hv
  obtain ⟨fuel, hf⟩ := h
  rcases open_slice Try.underlying55 hf with ⟨hcs, _⟩ | ⟨x, l, c, m, n, D, Pl, hcs, _, hl, hm, hmm, hd, hi⟩
  · simp [Value.cells] at hcs
    obtain ⟨rfl, rfl, rfl⟩ := hcs
    exact ⟨[], ⟨none, 0, rfl, fun h => by simp at h⟩, fun g off n c i dv e => by cases e⟩
  · simp [Value.cells] at hcs
    obtain ⟨rfl, rfl, rfl⟩ := hcs
    have hlm : len ≤ m := by rw [hmm]; split <;> omega
    simp only [Prod.mk.injEq] at hd
    have hop : ∀ i, i < len → ∃ o, OpCells w (x.add (i * 7)) o := fun i hilt => by
      obtain ⟨cs', hc, ht⟩ := hi i (by omega)
      rw [cells66] at hc
      refine open_op hc ht (fun n hn => hN n ?_)
      rw [hd.1]
      exact weights_elem Try.underlying55 (i := i) (d := D i) (by rw [List.getElem?_map, List.getElem?_range hilt]; rfl) n hn
    obtain ⟨O, hO⟩ := choose_lt hop
    have hget : ∀ i o, ((List.range len).map O)[i]? = some o → i < len ∧ O i = o := fun i o ho => by
      have hilt : i < len := by have := (List.getElem?_eq_some_iff.1 ho).1; simpa using this
      rw [List.getElem?_map, List.getElem?_range hilt] at ho
      exact ⟨hilt, by simpa using ho⟩
    by_cases hpos : 0 < len
    · obtain ⟨_, _, h0, _⟩ := hO 0 hpos
      rw [Nat.zero_mul, Go.Deep.add_add] at h0
      have hx0 : x.spot = none := congrArg Addr.spot (addr_head h0)
      obtain ⟨g, off, s⟩ := x
      obtain rfl : s = none := hx0
      have hcs : ∀ i, i < len → ∃ dv fv, w.cell? ⟨g, off + i * 7, none⟩ = some (.int .i64 (O i).kind) ∧ w.cell? ⟨g, off + i * 7 + 1, none⟩ = some (.int .i64 (O i).i) ∧ w.cell? ⟨g, off + i * 7 + 2, none⟩ = some (.int .i64 (O i).at') ∧ w.cell? ⟨g, off + i * 7 + 3, none⟩ = some (.int .i64 (O i).x) ∧
          w.cell? ⟨g, off + i * 7 + 4, none⟩ = some (.int .u8 (O i).fill.toNat) ∧ w.cell? ⟨g, off + i * 7 + 5, none⟩ = some dv ∧ w.cell? ⟨g, off + i * 7 + 6, none⟩ = some fv ∧ SeesB w dv (O i).data ∧ FatesA w fv (O i).fates ∧ (O i).i ≤ 9223372036854775807 ∧ ∀ m c, dv = .slice none m c → c = 0 := fun i hilt => by
        have := hO i hilt
        unfold OpCells at this
        simp only [addr_add, Nat.add_zero] at this
        exact this
      refine ⟨(List.range len).map O, ⟨_, cap, by rw [List.length_map, List.length_range], fun _ => ⟨g, off, rfl, fun i o ho => ?_⟩⟩, fun g' off' n' c' i dv e hin hc m' c'' e2 => ?_⟩
      · obtain ⟨hilt, rfl⟩ := hget i o ho
        obtain ⟨dv, fv, k0, k1, k2, k3, k4, k5, k6, k7, k8, k9, _⟩ := hcs i hilt
        exact ⟨dv, fv, k0, k1, k2, k3, k4, k5, k6, k7, k8, k9⟩
      · cases e
        obtain ⟨dv', fv, _, _, _, _, _, k5, _, _, _, _, k10⟩ := hcs i hin
        rw [hc] at k5
        cases k5
        exact k10 m' c'' e2
    · obtain rfl : len = 0 := by omega
      exact ⟨[], ⟨some x, cap, rfl, fun h => by simp at h⟩, fun g' off' n' c' i dv e hin => by cases e; omega⟩
end
end Go.Proofs.Ytckioocahmbhkaa
