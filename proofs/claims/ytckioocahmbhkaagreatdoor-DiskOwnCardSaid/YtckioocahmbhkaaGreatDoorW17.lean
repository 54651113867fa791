/- Walks: SameBytes, num; the chapter's example. -/
import Derived.Test.YtckioocahmbhkaaGreatDoorW16
import Derived.Lib.BufferRead
import Derived.Outline
namespace Go.Proofs.YtckioocahmbhkaaGreatDoor
open Go Go.RowKit Go.Maps Go.MuLone

/-- A slice of bytes that can be read, nil and empty too. -/
def SeesB (w : World) (v : Value) (bs : List UInt8) : Prop :=
  ∃ a cap, v = .slice a bs.length cap ∧ (a = none → bs = []) ∧ ∀ ad, a = some ad → ∀ (j : Nat) (x : UInt8), bs[j]? = some x → w.cell? (ad.add j) = some (bV x)

theorem SeesB.conv {w : World} {v : Value} {bs : List UInt8} (h : SeesB w v bs) : (convert 47 9 v).run Tryz.prog w = .ok (.string ⟨bs.toArray⟩) w := by
  obtain ⟨a, cap, rfl, h1, h2⟩ := h
  cases a with
  | none =>
    rw [h1 rfl]
    exact Lib.run_convert_nil_bytes w 47 9 5 cap Tryz.underlying47 Tryz.underlying5 Tryz.underlying9
  | some ad =>
    refine run_convert_bytes_back w 47 9 5 ad cap bs Tryz.underlying47 Tryz.underlying5 Tryz.underlying9 (fun j hj => ?_)
    exact h2 ad rfl j _ (List.getElem?_eq_getElem hj)

theorem SeesB.of_row {w : World} {v : Value} {bs : List UInt8} (h : w.ownsRow 0 5 1 v bs.length (bVs bs)) : SeesB w v bs := by
  obtain ⟨a, cap, rfl, _, _, hg⟩ := ownsRow_slice h
  refine ⟨a, cap, rfl, fun e => ?_, fun ad e j x hx => ?_⟩
  · by_cases h0 : 0 < bs.length
    · obtain ⟨g, hg⟩ := hg h0
      rw [e] at hg; cases hg
    · exact List.eq_nil_of_length_eq_zero (by omega)
  · have hj := (List.getElem?_eq_some_iff.1 hx).1
    obtain ⟨g, hg⟩ := hg (by omega)
    rw [e] at hg
    cases hg
    subst e
    rw [addr_add, Nat.zero_add, h.cellAt j (by omega)]
    simp [bVs, hx]

theorem same_any (w : World) (v1 v2 : Value) (p q : List UInt8) (h1 : SeesB w v1 p) (h2 : SeesB w v2 q) :
    Calls Tryz.prog 16 #[v1, v2] w fun e w' => e = .returned (.bool (decide (p = q))) ∧ w = w' := by
  have c1 := h1.conv
  have c2 := h2.conv
  obtain ⟨a1, n1, rfl, _, _⟩ := h1
  obtain ⟨a2, n2, rfl, _, _⟩ := h2
  go_enter Tryz.func16, Tryz.ntmps16
  go_wp2
  go_ret
  refine ⟨?_, rfl⟩
  show Ending.returned (Value.bool (p == q)) = _
  rw [show (p == q) = decide (p = q) by rw [Bool.eq_iff_iff]; simp]

set_option maxRecDepth 100000 in
theorem num_any (w : World) (n : Int) : Calls Tryz.prog 18 #[.int .i64 n] w fun e w' => e = .returned (.int .i64 n) ∧ w = w' := by
  go_enter Tryz.func18, Tryz.ntmps18
  go_wp2
  go_ret
  exact ⟨rfl, rfl⟩

/-- A slice of bytes in a row is the caller's still: the disk's step leaves it. -/
theorem Step.keep {w w' : World} {own own' : Own} (hst : Step w own w' own') {g : Nat} (hn : ¬ own.blocks g) (hl : g < w.heap.size) : ¬ own'.blocks g ∧ g < w'.heap.size ∧ w'.heap[g]? = w.heap[g]? :=
  ⟨fun e => (hst.new g e).elim hn (fun h => by omega), Nat.lt_of_lt_of_le hl hst.chg.size, hst.chg.block g hl hn⟩

theorem Step.below {w0 w w' : World} {own own' : Own} (hst : Step w own w' own') (hb : Below w0.heap.size w0 w) (hf : ∀ k, own.blocks k → w0.heap.size ≤ k) : Below w0.heap.size w0 w' ∧ ∀ k, own'.blocks k → w0.heap.size ≤ k :=
  ⟨hb.trans ⟨hst.chg.os, hst.chg.tape, hst.chg.output, hst.chg.size, fun k hk => hst.chg.block k (Nat.lt_of_lt_of_le hk hb.size) (fun e => by have := hf k e; omega)⟩,
   fun k hk => (hst.new k hk).elim (hf k) (fun h => Nat.le_trans hb.size h)⟩

theorem Chg.below' {w0 w w' : World} {S : Nat → Prop} (hc : Chg S w w') (hb : Below w0.heap.size w0 w) (hs : ∀ k, S k → w0.heap.size ≤ k) : Below w0.heap.size w0 w' :=
  hb.trans ⟨hc.os, hc.tape, hc.output, hc.size, fun k hk => hc.block k (Nat.lt_of_lt_of_le hk hb.size) (fun e => by have := hs k e; omega)⟩

theorem own0_blocks {H k : Nat} (h : (own0 H).blocks k) : H ≤ k ∧ k < H + 2 := by
  simp only [Own.blocks, own0] at h
  by_cases e1 : k = H
  · omega
  · by_cases e2 : k = H + 1
    · omega
    · simp [e1, e2] at h

/-- A row of the caller's behind a step. -/
theorem Step.row {w w' : World} {own own' : Own} (hst : Step w own w' own') {e : TypeId} {sz g n cap : Nat} {xs : List Value} (h : w.ownsRow 0 e sz (.slice (some ⟨g, 0, none⟩) n cap) n xs) (hn : ¬ own.blocks g) :
    w'.ownsRow 0 e sz (.slice (some ⟨g, 0, none⟩) n cap) n xs := ownsRow_chg h hst.chg (fun g' e => by cases e; exact hn)

theorem row_lt {w : World} {e : TypeId} {sz g n cap : Nat} {xs : List Value} (h : w.ownsRow 0 e sz (.slice (some ⟨g, 0, none⟩) n cap) n xs) : g < w.heap.size := by
  rcases h.2 with ⟨h0, _⟩ | ⟨g', _, _, h0, _, hh, _⟩
  · cases h0
  · cases h0; exact heap_lt hh

/-! ### the example's disk, in numbers -/
def pA : List UInt8 := rep 4096 65
def pC : List UInt8 := rep 4096 67
def pT : List UInt8 := pC.take 2 ++ pA.drop 2
theorem pA_len : pA.length = 4096 := by unfold pA; rw [rep_length]
theorem pC_len : pC.length = 4096 := by unfold pC; rw [rep_length]

def E0 : DS := DS.new 3
def E1 : DS := { cap := 3, lasting := [], pending := [(0, pA)], off := false, fuse := 0, done := 1, reads := 0, wr := 1 }
def E2 : DS := { cap := 3, lasting := [pA], pending := [], off := false, fuse := 0, done := 2, reads := 0, wr := 1 }
def E3 : DS := { cap := 3, lasting := [pA], pending := [(0, pC)], off := false, fuse := 0, done := 3, reads := 0, wr := 2 }
def E4 : DS := { cap := 3, lasting := [pA], pending := [(0, pC)], off := false, fuse := 2, done := 3, reads := 0, wr := 2 }
def E5 : DS := { cap := 3, lasting := [pA], pending := [(0, pC), (1, pC)], off := false, fuse := 1, done := 4, reads := 0, wr := 3 }
def E6 : DS := { cap := 3, lasting := [pA], pending := [(0, pC), (1, pC)], off := true, fuse := 0, done := 5, reads := 0, wr := 3 }
def E7 : DS := { cap := 3, lasting := [pT], pending := [], off := false, fuse := 0, done := 5, reads := 0, wr := 3 }

theorem layL_one (A B : List UInt8) (n : Nat) : layL [A] 0 B n = [B.take n ++ A.drop n] := by
  simp [layL, rep]
theorem layL_new (B : List UInt8) (h : B.length = 4096) : layL [] 0 B 4096 = [B] := by
  have h2 := zpage_length
  have e : layL [] 0 B 4096 = [B.take 4096 ++ zpage.drop 4096] := by simp [layL, rep]
  rw [e, List.take_of_length_le (by omega), List.drop_eq_nil_of_le (by omega), List.append_nil]

theorem w01 : E0.write 0 pA = (0, E1) := by
  have h := pA_len
  simp [DS.write, E0, DS.new, DS.pages, h, DS.count, DS.put, E1, wrap64]
theorem w12 : E1.sync = (0, E2) := by
  simp [DS.sync, E1, DS.count, E2, layAll, layL_new pA pA_len, wrap64]
theorem w23 : E2.write 0 pC = (0, E3) := by
  have h := pC_len
  simp [DS.write, E2, DS.pages, h, DS.count, DS.put, E3, wrap64]
theorem w34 : E3.arm 2 = (0, E4) := by simp [DS.arm, E3, E4]
theorem w45 : E4.write 1 pC = (0, E5) := by
  have h := pC_len
  simp [DS.write, E4, DS.pages, h, DS.count, DS.put, E5, wrap64]
theorem w56 : E5.sync = (123, E6) := by simp [DS.sync, E5, DS.count, E6, wrap64]
theorem w67 : E6.crash [(2, 2)] = E7 := by
  have e : (min (max (2 : Int) 0) 4096).toNat = 2 := rfl
  simp [DS.crash, E6, E7, crashAll, fateL, tornN, layL_one, pT, e]
theorem w78 : E7.read 0 = (0, pT, { E7 with reads := 1 }) := by
  simp [DS.read, E7, DS.pages, DS.page, lastOf, DS.looked, wrap64]

theorem ok_of {D : DS} (h1 : ∀ p ∈ D.lasting, p.length = 4096) (h2 : ∀ q ∈ D.pending, q.2.length = 4096) (h3 : ∀ q ∈ D.pending, q.1 < 524287) (h4 : D.lasting.length ≤ 524287) : D.ok := ⟨h1, h2, h3, h4⟩
theorem E0_ok : E0.ok := by constructor <;> simp [E0, DS.new]
theorem E1_ok : E1.ok := by constructor <;> simp [E1, pA_len]
theorem E2_ok : E2.ok := by constructor <;> simp [E2, pA_len]
theorem E3_ok : E3.ok := by constructor <;> simp [E3, pA_len, pC_len]
theorem E4_ok : E4.ok := by constructor <;> simp [E4, pA_len, pC_len]
theorem E5_ok : E5.ok := by constructor <;> simp [E5, pA_len, pC_len]
theorem E6_ok : E6.ok := by constructor <;> simp [E6, pA_len, pC_len]
theorem E7_ok : E7.ok := by constructor <;> simp [E7, pT, pA_len, pC_len]

theorem pT_any (n : Nat) (a c : UInt8) : ((rep n a).set 0 c).set 1 c = (rep n c).take 2 ++ (rep n a).drop 2 := by
  unfold rep
  apply List.ext_getElem
  · simp; omega
  · intro i h1 h2
    simp only [List.getElem_set, List.getElem_append, List.getElem_take, List.getElem_drop, List.getElem_replicate, List.length_take, List.length_replicate]
    have hn : i < n := by simpa using h1
    by_cases e0 : i = 0
    · subst e0
      have : n ≠ 0 := by omega
      simp [this]
    · by_cases e1 : i = 1
      · subst e1
        have : ¬ min 2 n ≤ 1 := by omega
        simp [this]
      · have : ¬ i < min 2 n := by omega
        simp [Ne.symm e0, Ne.symm e1, this]
theorem pT_eq : (pA.set 0 67).set 1 67 = pT := pT_any 4096 65 67

end Go.Proofs.YtckioocahmbhkaaGreatDoor
