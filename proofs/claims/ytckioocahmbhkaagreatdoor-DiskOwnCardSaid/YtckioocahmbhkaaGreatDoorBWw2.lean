/- Walk: the book's lists of plain structs of two cells (writes): their marks. -/
import Derived.Test.YtckioocahmbhkaaGreatDoorBK1
import Derived.Test.YtckioocahmbhkaaGreatDoorProg
import Derived.Deep.LoopGhost
import Derived.Deep.RegionHeld3
import Derived.Deep.DeepCutAuto
import Derived.Outline
import Derived.BigQuiet
import Derived.Handy
namespace Go.Proofs.YtckioocahmbhkaaGreatDoor
open Go Go.RowKit Go.Maps

/-- The mark of the element j of the list number id, in the pass c. -/
def writesEl (c id j : Int) (p q : Value) : Prop := p = .int .i64 (id * 1000 + 2 * j + c) ∧ q = .slice none 0 0
def writesRow (c id : Int) (n : Nat) (cs : List Value) : Prop :=
  ∀ j : Nat, j < n → ∃ p q, cs[j * 2]? = some p ∧ cs[j * 2 + 1]? = some q ∧ writesEl c id j p q
theorem writesRow.snoc {c id : Int} {n : Nat} {cs : List Value} {p q : Value} (h : writesRow c id n cs) (hl : cs.length = n * 2) (he : writesEl c id n p q) : writesRow c id (n + 1) (cs ++ [p, q]) := fun j hj => by
  by_cases e : j < n
  · obtain ⟨p', q', h1, h2, h3⟩ := h j e
    exact ⟨p', q', by rw [List.getElem?_append_left (by omega)]; exact h1, by rw [List.getElem?_append_left (by omega)]; exact h2, h3⟩
  · obtain rfl : j = n := by omega
    refine ⟨p, q, ?_, ?_, he⟩
    · rw [List.getElem?_append_right (by omega), show j * 2 - cs.length = 0 by omega]; rfl
    · rw [List.getElem?_append_right (by omega), show j * 2 + 1 - cs.length = 1 by omega]; rfl

set_option maxRecDepth 100000 in
set_option maxHeartbeats 4000000 in
theorem writesmark_any (w : World) (own : BOwn) (b : Nat) (F : Nat → Value) (hb : BookF 39 w own b F) (c : Int) (hc : F 1 = .int .i64 c) (hcc : 0 ≤ c ∧ c ≤ 1) (id j : Int) (h0 : 0 ≤ id) (h1 : id ≤ 1000000) (h2 : 0 ≤ j) (h3 : j ≤ 1099511627776) :
    Calls Tryz.prog 117 #[.pointer (some ⟨b, 0, none⟩), .int .i64 id, .int .i64 j] w fun e w' => e = .returned (.agg #[.int .i64 (id * 1000 + 2 * j + c), .slice none 0 0]) ∧ Chg (fun _ => False) w w' := by
  have x1 := hb.cell 1 (by omega)
  rw [hc] at x1
  obtain ⟨c0, c1⟩ := hcc
  have hbl : b < w.heap.size := hb.lt _ _ hb.role
  have hne : b ≠ w.heap.size := by omega
  clear hb hc
  go_enter Tryz.func117, Tryz.ntmps117
  go_wp2
  refine bodyPost_ret (by simp [results, Tryz.results117, go_sem]; try rfl) rfl ?_
  exact ⟨rfl, by repeat (first | exact Chg.refl _ _ | refine Chg.alloc ?_ _ | refine Chg.setCell ?_ (.inr (Nat.le_refl _)) _)⟩
end Go.Proofs.YtckioocahmbhkaaGreatDoor
