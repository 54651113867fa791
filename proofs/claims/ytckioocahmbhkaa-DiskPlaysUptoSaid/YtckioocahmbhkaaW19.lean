/- The getters as a law calls them; a law's arguments, opened. -/
import Derived.Test.YtckioocahmbhkaaW18
import Derived.Deep.Slices
import Derived.Deep.Fields
import Derived.ChangeSame
import Derived.ProofKit
import Derived.OpenShut
namespace Go.Proofs.Ytckioocahmbhkaa
open Go Go.RowKit Go.Maps Go.MuLone

theorem cap_st {w0 w : World} {own : Own} {b : Nat} {D : DS} (h : St w0 w own b D) {c : Int} (hc : D.cap = c) : Calls Try.prog 25 #[.pointer (some ⟨b, 0, none⟩)] w fun e w' => e = .returned (.int .i64 c) ∧ w = w' := by
  have := cap_any w own 0 b D h.disk
  rw [hc] at this
  exact this
theorem power_st {w0 w : World} {own : Own} {b : Nat} {D : DS} (h : St w0 w own b D) {c : Bool} (hc : (!D.off) = c) : Calls Try.prog 19 #[.pointer (some ⟨b, 0, none⟩)] w fun e w' => e = .returned (.bool c) ∧ St w0 w' own b D ∧ Step w own w' own := by
  have := power_any w own b D h.disk
  rw [hc] at this
  refine this.mono ?_
  rintro e w' ⟨rfl, h1, h2⟩
  exact ⟨rfl, h.stepb h1 h2, Step.of_b h.str h2⟩
theorem done_st {w0 w : World} {own : Own} {b : Nat} {D : DS} (h : St w0 w own b D) {c : Int} (hc : D.done = c) : Calls Try.prog 20 #[.pointer (some ⟨b, 0, none⟩)] w fun e w' => e = .returned (.int .i64 c) ∧ St w0 w' own b D ∧ Step w own w' own := by
  have := done_any w own b D h.disk
  rw [hc] at this
  refine this.mono ?_
  rintro e w' ⟨rfl, h1, h2⟩
  exact ⟨rfl, h.stepb h1 h2, Step.of_b h.str h2⟩
theorem reads_st {w0 w : World} {own : Own} {b : Nat} {D : DS} (h : St w0 w own b D) {c : Int} (hc : D.reads = c) : Calls Try.prog 26 #[.pointer (some ⟨b, 0, none⟩)] w fun e w' => e = .returned (.int .i64 c) ∧ St w0 w' own b D ∧ Step w own w' own := by
  have := reads_any w own b D h.disk
  rw [hc] at this
  refine this.mono ?_
  rintro e w' ⟨rfl, h1, h2⟩
  exact ⟨rfl, h.stepb h1 h2, Step.of_b h.str h2⟩
theorem durable_st {w0 w : World} {own : Own} {b : Nat} {D : DS} (h : St w0 w own b D) (hok : D.ok) {bs : List UInt8} (hb : D.lasting.flatten = bs) :
    Calls Try.prog 15 #[.pointer (some ⟨b, 0, none⟩)] w fun e w' => ∃ a cap, e = .returned (.slice a bs.length cap) ∧ Handed w w' (.slice a bs.length cap) bs ∧ St w0 w' own b D ∧ Step w own w' own := by
  have := durable_any w own b D h.disk hok
  rw [hb] at this
  refine this.mono ?_
  rintro e w' ⟨a, cap, rfl, h0, h1, h2⟩
  exact ⟨a, cap, rfl, h0, h.stepb h1 h2, Step.of_b h.str h2⟩
theorem pending_st {w0 w : World} {own : Own} {b : Nat} {D : DS} (h : St w0 w own b D) (hok : D.ok) (hn : D.pending.length < 1000000) {qs : List (Nat × List UInt8)} (hb : D.pending = qs) :
    Calls Try.prog 14 #[.pointer (some ⟨b, 0, none⟩)] w fun e w' => ∃ a cap rho, e = .returned (.slice a qs.length cap) ∧ Writes w' w.heap.size rho (.slice a qs.length cap) qs ∧ St w0 w' own b D ∧ Step w own w' own := by
  have := pending_any w own b D h.disk hok hn
  rw [hb] at this
  refine this.mono ?_
  rintro e w' ⟨a, cap, rho, rfl, h0, h1, h2⟩
  exact ⟨a, cap, rho, rfl, h0, h.stepb h1 h2, Step.of_b h.str h2⟩


/-! ### arguments -/
open Go.ChangeShapes Go.WideShapes Go.Deep

def BoolsA (w : World) (v : Value) (bs : List Bool) : Prop :=
  ∃ a cap, v = .slice a bs.length cap ∧ bs.length ≤ 9223372036854775807 ∧ (0 < bs.length → ∃ g o, a = some ⟨g, o, none⟩ ∧ ∀ (i : Nat) (x : Bool), bs[i]? = some x → w.cell? ⟨g, o + i, none⟩ = some (.bool x))

def PutsA (w : World) (v : Value) (ps : List (Int × UInt8)) : Prop :=
  ∃ a cap, v = .slice a ps.length cap ∧ ps.length ≤ 9223372036854775807 ∧ (0 < ps.length → ∃ g o, a = some ⟨g, o, none⟩ ∧ ∀ (i : Nat) (x : Int × UInt8), ps[i]? = some x → w.cell? ⟨g, o + i * 2, none⟩ = some (.int .i64 x.1) ∧ w.cell? ⟨g, o + i * 2 + 1, none⟩ = some (bV x.2))

section
variable {H : Type} {enc : TypeId × Value → H} {w : World} {base : Nat} {spare : Nat → Bool} {held : Bool}

theorem addr_plain {a : Addr} {v : Value} (h : w.cell? a = some v) : a = ⟨a.block, a.off, none⟩ := by
  obtain ⟨b, o, s⟩ := a
  cases s with
  | none => rfl
  | some s =>
    unfold World.cell? at h
    split at h <;> simp at h

theorem addr_head {a : Addr} {v : Value} (h : w.cell? (a.add 0) = some v) : a = ⟨a.block, a.off, none⟩ := by
  have e : a.add 0 = a := by simp [Addr.add]
  rw [e] at h
  exact addr_plain h

theorem cells4 : Try.prog.cellsOf 4 = 1 := by kernel_rfl

set_option maxRecDepth 100000 in
theorem open_bools {v : Value} {d : DataW H} {p : List MemPlace} (hv : Value.okWide Try.prog w .any base 23 v) (h : DataW.Trod enc Try.prog w 0 spare held 23 v d p) : ∃ bs, BoolsA w v bs := by
  obtain ⟨a, len, cap, rfl⟩ := okWide_slice Try.underlying23 hv
  obtain ⟨fuel, hf⟩ := h
  rcases open_slice Try.underlying23 hf with ⟨hcs, _⟩ | ⟨x, l, c, m, n, D, Pl, hcs, _, hl, hm, hmm, _, hi⟩
  · simp [Value.cells] at hcs
    obtain ⟨rfl, rfl, rfl⟩ := hcs
    exact ⟨[], none, 0, rfl, Nat.zero_le _, fun h => by simp at h⟩
  · simp [Value.cells] at hcs
    obtain ⟨rfl, rfl, rfl⟩ := hcs
    have hlm : len ≤ m := by rw [hmm]; split <;> omega
    have hcell : ∀ i, i < len → ∃ x' : Bool, w.cell? (x.add i) = some (.bool x') := fun i hilt => by
      obtain ⟨cs', hc, ht⟩ := hi i (by omega)
      rw [cells4] at hc
      obtain ⟨_, hcl, hat⟩ := World.cells?_some hc
      obtain ⟨b, rfl, _⟩ := DataW.trod_bool Try.underlying4 ht
      have := hat 0 (by omega)
      rw [Nat.mul_one] at this
      exact ⟨b, by simpa [Addr.add] using this⟩
    refine ⟨(List.range len).map (fun i => match w.cell? (x.add i) with | some (.bool b) => b | _ => false), some x, cap, by simp, by rw [List.length_map, List.length_range]; unfold maxLen at hm; omega, fun hpos => ?_⟩
    simp at hpos
    obtain ⟨b0, hb0⟩ := hcell 0 hpos
    have hx0 : x.spot = none := congrArg Addr.spot (addr_head hb0)
    obtain ⟨g, o, s⟩ := x
    obtain rfl : s = none := hx0
    refine ⟨g, o, rfl, fun i y hy => ?_⟩
    have hilt : i < len := by have := (List.getElem?_eq_some_iff.1 hy).1; simpa using this
    obtain ⟨b', hb'⟩ := hcell i hilt
    rw [List.getElem?_map, List.getElem?_range hilt, Option.map_some, hb'] at hy
    cases hy
    rw [addr_add] at hb'
    exact hb'

set_option maxRecDepth 100000 in
theorem open_pairs {t e : TypeId} {f0 f1 : Field} {fuel : Nat} {cs : List Value} {x : DataW H × List MemPlace} (ht : Try.prog.underlying t = some (.slice e)) (he : Try.prog.underlying e = some (.struct #[f0, f1]))
    (hone : oneCellFields Try.prog #[f0, f1] = true) (hC : Try.prog.cellsOf e = 2) (h : DataW.trod enc Try.prog w base spare held fuel t cs = some x) :
    (cs = [.slice none 0 0] ∧ x = (.nil, [])) ∨
    ∃ (a : Addr) (len cap : Nat), cs = [.slice (some a) len cap] ∧ len ≤ cap ∧ cap ≤ maxLen ∧
      ∀ i, i < len → ∃ (v0 v1 : Value) (y0 y1 : DataW H × List MemPlace) (n : Nat), w.cell? (a.add (i * 2)) = some v0 ∧ w.cell? (a.add (i * 2 + 1)) = some v1 ∧ DataW.trod enc Try.prog w base spare held n f0.type [v0] = some y0 ∧ DataW.trod enc Try.prog w base spare held n f1.type [v1] = some y1 := by
  rcases open_slice ht h with h0 | ⟨a, len, cap, m, n, D, Pl, hcs, hb, hl, hm, hmm, hx, hi⟩
  · exact .inl ⟨h0.1, h0.2⟩
  · have hlm : len ≤ m := by rw [hmm]; split <;> omega
    refine .inr ⟨a, len, cap, hcs, hl, hm, fun i hilt => ?_⟩
    obtain ⟨cs', hc, ht'⟩ := hi i (by omega)
    rw [hC] at hc
    obtain ⟨ys, n', hn', hy, hlen, hyl, hf⟩ := DataW.trod_struct he ht'
    obtain ⟨_, hcl, hat⟩ := World.cells?_some hc
    obtain ⟨o0, k0⟩ := hone_of hone 0 f0 rfl
    obtain ⟨o1, k1⟩ := hone_of hone 1 f1 rfl
    match cs', hcl with
    | [c0, c1], _ =>
      have h0 := hf 0 f0 rfl
      have h1 := hf 1 f1 rfl
      rw [o0, k0] at h0
      rw [o1, k1] at h1
      match ys, hyl with
      | [y0, y1], _ =>
        have g0 := hat 0 (by omega)
        have g1 := hat 1 (by omega)
        rw [Go.Deep.add_add] at g0 g1
        exact ⟨c0, c1, y0, y1, n', g0, g1, h0, h1⟩

theorem cells31 : Try.prog.cellsOf 31 = 2 := by kernel_rfl
theorem cells49 : Try.prog.cellsOf 49 = 2 := by kernel_rfl

set_option maxRecDepth 100000 in
theorem open_puts {v : Value} {d : DataW H} {p : List MemPlace} (hv : Value.okWide Try.prog w .any base 22 v) (h : DataW.Trod enc Try.prog w 0 spare held 22 v d p) : ∃ ps, PutsA w v ps := by
  obtain ⟨a, len, cap, rfl⟩ := okWide_slice Try.underlying22 hv
  obtain ⟨fuel, hf⟩ := h
  rcases open_pairs Try.underlying22 Try.underlying31 (by kernel_rfl) cells31 hf with ⟨hcs, _⟩ | ⟨x, l, c, hcs, hl, hm, hi⟩
  · simp [Value.cells] at hcs
    obtain ⟨rfl, rfl, rfl⟩ := hcs
    exact ⟨[], none, 0, rfl, Nat.zero_le _, fun h => by simp at h⟩
  · simp [Value.cells] at hcs
    obtain ⟨rfl, rfl, rfl⟩ := hcs
    have hcell : ∀ i, i < len → ∃ (n : Int) (y : UInt8), w.cell? (x.add (i * 2)) = some (.int .i64 n) ∧ w.cell? (x.add (i * 2 + 1)) = some (bV y) := fun i hilt => by
      obtain ⟨v0, v1, y0, y1, n, g0, g1, t0, t1⟩ := hi i hilt
      obtain ⟨n0, e0, _, _⟩ := DataW.trod_int Try.underlying3 t0
      obtain ⟨n1, e1, _, w1⟩ := DataW.trod_int Try.underlying5 t1
      simp only [List.cons.injEq, and_true] at e0 e1
      subst e0 e1
      have hb := bounds_u8 w1
      refine ⟨n0, UInt8.ofNat n1.toNat, g0, ?_⟩
      rw [g1]
      unfold bV
      have : ((UInt8.ofNat n1.toNat).toNat : Int) = n1 := by
        rw [UInt8.toNat_ofNat']; omega
      rw [this]
    refine ⟨(List.range len).map (fun i => (match w.cell? (x.add (i * 2)) with | some (.int _ n) => n | _ => 0, match w.cell? (x.add (i * 2 + 1)) with | some (.int _ n) => UInt8.ofNat n.toNat | _ => 0)), some x, cap, by rw [List.length_map, List.length_range], by rw [List.length_map, List.length_range]; unfold maxLen at hm; omega, fun hpos => ?_⟩
    rw [List.length_map, List.length_range] at hpos
    obtain ⟨n0, y0, hb0, _⟩ := hcell 0 hpos
    have hx0 : x.spot = none := congrArg Addr.spot (addr_head hb0)
    obtain ⟨g, o, s⟩ := x
    obtain rfl : s = none := hx0
    refine ⟨g, o, rfl, fun i y hy => ?_⟩
    have hilt : i < len := by have := (List.getElem?_eq_some_iff.1 hy).1; simpa using this
    obtain ⟨n', y', g0, g1⟩ := hcell i hilt
    rw [List.getElem?_map, List.getElem?_range hilt, Option.map_some, g0, g1] at hy
    rw [addr_add] at g0 g1
    cases hy
    refine ⟨g0, ?_⟩
    rw [Nat.add_assoc]
    rw [g1]
    unfold bV
    congr 1
    show Value.int .u8 _ = Value.int .u8 ((UInt8.ofNat (Int.toNat (y'.toNat : Int))).toNat : Int)
    rw [Int.toNat_natCast, UInt8.ofNat_toNat]

/-- The fates that a law was handed, at whatever place. -/
def FatesA (w : World) (v : Value) (fs : List (Int × Int)) : Prop :=
  ∃ a cap, v = .slice a fs.length cap ∧ fs.length * 16 ≤ 140737488351232 ∧ (0 < fs.length → ∃ g o, a = some ⟨g, o, none⟩ ∧ ∀ (i : Nat) (x : Int × Int), fs[i]? = some x → w.cell? ⟨g, o + i * 2, none⟩ = some (.int .i64 x.1) ∧ w.cell? ⟨g, o + i * 2 + 1, none⟩ = some (.int .i64 x.2))

end

end Go.Proofs.Ytckioocahmbhkaa
