/- Walks: the book's lists of ints: their marks, and what shows them. -/
import Derived.Test.YtipclbibomemjaaGreatDoorBK1
import Derived.Test.YtipclbibomemjaaGreatDoorProg
import Derived.Deep.LoopGhost
import Derived.Deep.RegionHeld3
import Derived.Deep.DeepCutAuto
import Derived.Outline
import Derived.BigQuiet
namespace Go.Proofs.YtipclbibomemjaaGreatDoor
open Go Go.RowKit Go.Maps

/-- The mark of the element j of the list number id, in the pass c. -/
def intsmark (c id j : Int) : Int := id * 1000 + 2 * j + c
set_option maxRecDepth 100000 in
set_option maxHeartbeats 4000000 in
theorem intsmark_any (w : World) (own : Own) (b : Nat) (F : Nat → Value) (hb : BookF 46 w own b F) (c : Int) (hc : F 1 = .int .i64 c) (hcc : 0 ≤ c ∧ c ≤ 1) (id j : Int) (h0 : 0 ≤ id) (h1 : id ≤ 1000000) (h2 : 0 ≤ j) (h3 : j ≤ 1099511627776) :
    Calls Tryz.prog 107 #[.pointer (some ⟨b, 0, none⟩), .int .i64 id, .int .i64 j] w fun e w' => e = .returned (.int .i64 (intsmark c id j)) ∧ w = w' := by
  have x1 := hb.cell 1 (by omega)
  rw [hc] at x1
  obtain ⟨c0, c1⟩ := hcc
  have HR : Hid (intsmark c id j = id * 1000 + 2 * j + c) := Lib.hid rfl
  clear hb hc
  go_enter Tryz.func107, Tryz.ntmps107
  go_wp2
  go_ret
  exact ⟨by rw [HR.out]; rfl, rfl⟩
def intsmarks (c id : Int) (n : Nat) : List Value := (List.range n).map fun j : Nat => .int .i64 (intsmark c id (j : Int))
theorem intsmarks_length (c id : Int) (n : Nat) : (intsmarks c id n).length = n := by simp [intsmarks]
theorem intsmarks_get {c id : Int} {n j : Nat} (h : j < n) : (intsmarks c id n)[j]? = some (.int .i64 (intsmark c id (j : Int))) := by
  unfold intsmarks; rw [List.getElem?_map, List.getElem?_range h]; rfl
theorem intsmarks_snoc (c id : Int) (n : Nat) : intsmarks c id (n + 1) = intsmarks c id n ++ [.int .i64 (intsmark c id (n : Int))] := by
  unfold intsmarks; rw [List.range_succ, List.map_append]; rfl
theorem intsmarks_of {c id : Int} {n : Nat} {cs : List Value} (hl : cs.length = n) (h : ∀ j : Nat, j < n → cs[j]? = some (.int .i64 (intsmark c id (j : Int)))) : cs = intsmarks c id n := by
  apply List.ext_getElem?
  intro j
  by_cases hj : j < n
  · rw [h j hj, intsmarks_get hj]
  · rw [List.getElem?_eq_none (by omega), List.getElem?_eq_none (by rw [intsmarks_length]; omega)]

set_option maxRecDepth 100000 in
set_option maxHeartbeats 4000000 in
theorem intsshow_any (w : World) (own : Own) (b : Nat) (F : Nat → Value) (hb : BookF 46 w own b F) (c : Int) (hc : F 1 = .int .i64 c) (hcc : 0 ≤ c ∧ c ≤ 1) (id : Int) (h0 : 0 ≤ id) (h1 : id ≤ 1000000) (v : Value) (n : Nat) (hn : n ≤ 134217728) (hr : w.ownsRow 0 3 1 v n (intsmarks c id n)) :
    Calls Tryz.prog 120 #[.pointer (some ⟨b, 0, none⟩), v, .int .i64 id] w fun e w' => e = .returned (.bool true) ∧ w = w' := by
  have HB := Lib.hid hb
  have HC := Lib.hid hc
  have HR := Lib.hid hr
  obtain ⟨a, cap, rfl, hcap, _, hg⟩ := bk_slice hr
  have HG := Lib.hid hg
  clear hb hc hr hg
  go_enter Tryz.func120, Tryz.ntmps120
  go_wp2_with fail
  go_loopg [7, 8, 9] n (fun gm jv _ _ wr => ∃ (j : Nat), j ≤ n ∧ gm = n - j ∧ jv = .int .i64 j ∧ w = wr)
  case atStart => exact ⟨0, by omega, rfl, rfl, rfl⟩
  case round =>
    obtain ⟨j, hj, hgm, rfl, rfl⟩ := hrel
    have Hg := Lib.hid hgm
    clear hgm
    by_cases hlt : j < n
    · obtain ⟨g, rfl⟩ := HG.out (by omega)
      have hji : (j : Int) < (n : Int) := by omega
      have hj0 : (0 : Int) ≤ (j : Int) := by omega
      have hcell : w.cell? ⟨g, j, none⟩ = some (.int .i64 (intsmark c id (j : Int))) := by
        have h := HR.out.cells rfl j _ (intsmarks_get hlt)
        rw [bk_add, Nat.zero_add] at h
        exact h
      go_wp2_with fail
      refine (intsmark_any _ own b F HB.out c HC.out hcc id (j : Int) h0 h1 (by omega) (by omega)).mono ?_
      rintro e w' ⟨rfl, rfl⟩
      obtain ⟨mv, hmv⟩ : ∃ mv, mv = intsmark c id (j : Int) := ⟨_, rfl⟩
      rw [← hmv] at hcell ⊢
      clear hmv
      go_wp2_with fail
      go_roundg (n - (j + 1))
      case measure => have := Hg.out; omega
      case rel => exact ⟨j + 1, by omega, rfl, by go_num, rfl⟩
    · have hji : ¬ (j : Int) < (n : Int) := by omega
      go_wp2_with fail
      go_ret
      exact ⟨rfl, rfl⟩
end Go.Proofs.YtipclbibomemjaaGreatDoor
