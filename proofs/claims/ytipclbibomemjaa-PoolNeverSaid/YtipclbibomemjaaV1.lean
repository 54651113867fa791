/- The document's pool as data, and how it lies in memory; its rises, has. -/
import Derived.Test.YtipclbibomemjaaQ3
namespace Go.Proofs.Ytipclbibomemjaa
open Go Go.RowKit Go.Maps

/-- Free numbers as cells. -/
def frow : List (Nat × Int) → List Value
  | [] => []
  | q :: l => .int .i64 q.1 :: .int .i64 q.2 :: frow l
theorem frow_length (L : List (Nat × Int)) : (frow L).length = L.length * 2 := by
  induction L with
  | nil => rfl
  | cons q l ih => simp [frow, ih]; omega
theorem frow_append (L M : List (Nat × Int)) : frow (L ++ M) = frow L ++ frow M := by
  induction L with
  | nil => rfl
  | cons q l ih => simp [frow, ih]
theorem frow_at {L : List (Nat × Int)} {k : Nat} {q : Nat × Int} (h : L[k]? = some q) : (frow L)[k * 2]? = some (.int .i64 q.1) ∧ (frow L)[k * 2 + 1]? = some (.int .i64 q.2) := by
  induction L generalizing k with
  | nil => simp at h
  | cons p l ih =>
    cases k with
    | zero => simp at h; subst h; simp [frow]
    | succ k =>
      simp at h
      have := ih h
      rw [show (k + 1) * 2 = k * 2 + 1 + 1 by omega]
      simpa [frow] using this

/-- The document's pool P at rb. -/
structure RF (w : World) (rb : Nat) (P : PS) (lv pv : Value) : Prop where
  blk : w.heap[rb]? = some (.cells #[.int .i64 P.size, .int .i64 P.cap, lv, pv] 64)
  fr : w.ownsRow 0 76 2 lv P.free.length (frow P.free)
  pn : w.ownsRow 0 3 1 pv P.pins.length (P.pins.map (Value.int .i64))
  nl : lv.ownBlock ≠ some rb
  np : pv.ownBlock ≠ some rb
  ne : ∀ g, lv.ownBlock = some g → pv.ownBlock ≠ some g

theorem RF.chg {S : Nat → Prop} {w w' : World} {rb : Nat} {P : PS} {lv pv : Value} (h : RF w rb P lv pv) (hc : Chg S w w') (h0 : ¬ S rb) (h1 : ∀ g, lv.ownBlock = some g → ¬ S g) (h2 : ∀ g, pv.ownBlock = some g → ¬ S g) : RF w' rb P lv pv :=
  ⟨hc.get h.blk h0, ownsRow_chg h.fr hc h1, ownsRow_chg h.pn hc h2, h.nl, h.np, h.ne⟩
theorem RF.chg0 {w w' : World} {rb : Nat} {P : PS} {lv pv : Value} (h : RF w rb P lv pv) (hc : Chg (fun _ => False) w w') : RF w' rb P lv pv := h.chg hc (fun f => f) (fun _ _ f => f) (fun _ _ f => f)
theorem RF.cells {w : World} {rb : Nat} {P : PS} {lv pv : Value} (h : RF w rb P lv pv) : w.cell? ⟨rb, 0, none⟩ = some (.int .i64 P.size) ∧ w.cell? ⟨rb, 1, none⟩ = some (.int .i64 P.cap) ∧ w.cell? ⟨rb, 2, none⟩ = some lv ∧ w.cell? ⟨rb, 3, none⟩ = some pv ∧ ∀ i, w.frozen? ⟨rb, i, none⟩ = false := by
  refine ⟨?_, ?_, ?_, ?_, fun i => by simp [World.frozen?, h.blk]⟩ <;> simp [World.cell?, h.blk]
theorem RF.lt {w : World} {rb : Nat} {P : PS} {lv pv : Value} (h : RF w rb P lv pv) : rb < w.heap.size := heap_lt h.blk

theorem frow_cell {w : World} {a : Option Addr} {n c k : Nat} {L : List (Nat × Int)} {q : Nat × Int} (h : w.ownsRow 0 76 2 (.slice a n c) n (frow L)) (hq : L[k]? = some q) :
    ∃ g, a = some ⟨g, 0, none⟩ ∧ w.cell? ⟨g, k * 2, none⟩ = some (.int .i64 q.1) ∧ w.cell? ⟨g, k * 2 + 1, none⟩ = some (.int .i64 q.2) := by
  have hl : (frow L).length = n * 2 := h.1
  rw [frow_length] at hl
  have hk := (List.getElem?_eq_some_iff.1 hq).1
  obtain ⟨_, _, e, _, _, hp⟩ := ownsRow_slice h
  cases e
  obtain ⟨g, rfl⟩ := hp (by omega)
  obtain ⟨e1, e2⟩ := frow_at hq
  exact ⟨g, rfl, by rw [h.cellAt (k * 2) (by omega), e1], by rw [h.cellAt (k * 2 + 1) (by omega), e2]⟩

set_option maxRecDepth 100000 in
theorem rhas_any (w : World) (rb : Nat) (P : PS) (lv pv : Value) (h : RF w rb P lv pv) (hl : P.free.length ≤ 1000000) (x : Int) :
    Calls Try.prog 43 #[.pointer (some ⟨rb, 0, none⟩), .int .i64 x] w fun e w' => e = .returned (.bool (P.has x)) ∧ w = w' := by
  obtain ⟨_, _, c2, _, _⟩ := h.cells
  have HF := Lib.hid h.fr
  obtain ⟨a, c, rfl, _, _, _⟩ := ownsRow_slice h.fr
  obtain ⟨n, hn⟩ : ∃ n, n = P.free.length := ⟨_, rfl⟩
  rw [← hn] at c2 HF hl
  have HN := Lib.hid hn
  clear h hn
  go_enter Try.func43, Try.ntmps43
  go_wp2_with fail
  go_loopg [5] n (fun gm iv wr => ∃ (k : Nat), k ≤ n ∧ gm = n - k ∧ iv = .int .i64 k ∧ w = wr ∧ (P.free.drop k).any (fun q => (q.1 : Int) == x) = P.has x)
  case atStart => exact ⟨0, by omega, rfl, rfl, rfl, rfl⟩
  case round =>
    obtain ⟨k, hk, hg, rfl, rfl, hr⟩ := hrel
    have Hg := Lib.hid hg
    have Hr := Lib.hid hr
    clear hg hr
    by_cases hlt : k < n
    · obtain ⟨q, hq⟩ : ∃ q, P.free[k]? = some q := ⟨_, List.getElem?_eq_getElem (by rw [← HN.out]; exact hlt)⟩
      obtain ⟨g, e, cx, _⟩ := frow_cell HF.out hq
      cases e
      have HD : Hid (P.free.drop k = q :: P.free.drop (k + 1)) := Lib.hid (by
        obtain ⟨h1, e⟩ := List.getElem?_eq_some_iff.1 hq
        rw [List.drop_eq_getElem_cons h1, e])
      have hki : (k : Int) < (n : Int) := by omega
      have hk0 : (0 : Int) ≤ (k : Int) := by omega
      clear hq
      cases hb : ((q.1 : Int) == x) with
      | true =>
        have HR : Hid (P.has x = true) := Lib.hid (by rw [← Hr.out, HD.out, List.any_cons, hb]; rfl)
        go_wp2_with fail
        go_ret
        exact ⟨by rw [HR.out]; rfl, rfl⟩
      | false =>
        have HR : Hid ((P.free.drop (k + 1)).any (fun q => (q.1 : Int) == x) = P.has x) := Lib.hid (by rw [← Hr.out, HD.out, List.any_cons, hb]; rfl)
        go_wp2_with fail
        go_roundg (n - (k + 1))
        case measure => have := Hg.out; omega
        case rel => exact ⟨k + 1, by omega, rfl, by go_num, rfl, HR.out⟩
    · have HR : Hid (P.has x = false) := Lib.hid (by rw [← Hr.out, List.drop_eq_nil_of_le (by rw [← HN.out]; omega)]; rfl)
      go_wp2_with fail
      go_ret
      exact ⟨by rw [HR.out]; rfl, rfl⟩
end Go.Proofs.Ytipclbibomemjaa
