/- Walks: the book's lists of bytes: their marks, and what shows them. -/
import Derived.Test.YtckioocahmbhkaaGreatDoorBK1
import Derived.Test.YtckioocahmbhkaaGreatDoorProg
import Derived.Deep.LoopGhost
import Derived.Deep.RegionHeld3
import Derived.Deep.DeepCutAuto
import Derived.Outline
import Derived.BigQuiet
namespace Go.Proofs.YtckioocahmbhkaaGreatDoor
open Go Go.RowKit Go.Maps

/-- The mark of the element j of the list number id, in the pass c. -/
def bytesmark (c id j : Int) : Int := if c = 1 then (id * 97 + j * 31) % 256 else (id / 256 * 59 + j * 13 + id % 256 * 3 + 1) % 256
set_option maxRecDepth 100000 in
set_option maxHeartbeats 4000000 in
theorem bytesmark_any (w : World) (own : BOwn) (b : Nat) (F : Nat → Value) (hb : BookF 39 w own b F) (c : Int) (hc : F 1 = .int .i64 c) (hcc : 0 ≤ c ∧ c ≤ 1) (id j : Int) (h0 : 0 ≤ id) (h1 : id ≤ 1000000) (h2 : 0 ≤ j) (h3 : j ≤ 1099511627776) :
    Calls Tryz.prog 108 #[.pointer (some ⟨b, 0, none⟩), .int .i64 id, .int .i64 j] w fun e w' => e = .returned (.int .u8 (bytesmark c id j)) ∧ w = w' := by
  have x1 := hb.cell 1 (by omega)
  rw [hc] at x1
  by_cases hc1 : c = 1
  · have HR : Hid (bytesmark c id j = (id * 97 + j * 31) % 256) := Lib.hid (by unfold bytesmark; rw [if_pos hc1])
    have hcb : (c == 1) = true := by rw [beq_iff_eq]; exact hc1
    clear hb hc hc1
    go_enter Tryz.func108, Tryz.ntmps108
    go_wp2
    go_ret
    exact ⟨by rw [HR.out]; rfl, rfl⟩
  · have HR : Hid (bytesmark c id j = (id / 256 * 59 + j * 13 + id % 256 * 3 + 1) % 256) := Lib.hid (by unfold bytesmark; rw [if_neg hc1])
    have hcb : (c == 1) = false := by rw [beq_eq_false_iff_ne]; exact hc1
    clear hb hc hc1
    go_enter Tryz.func108, Tryz.ntmps108
    go_wp2
    go_ret
    exact ⟨by rw [HR.out]; rfl, rfl⟩
def bytesmarks (c id : Int) (n : Nat) : List Value := (List.range n).map fun j : Nat => .int .u8 (bytesmark c id (j : Int))
theorem bytesmarks_length (c id : Int) (n : Nat) : (bytesmarks c id n).length = n := by simp [bytesmarks]
theorem bytesmarks_get {c id : Int} {n j : Nat} (h : j < n) : (bytesmarks c id n)[j]? = some (.int .u8 (bytesmark c id (j : Int))) := by
  unfold bytesmarks; rw [List.getElem?_map, List.getElem?_range h]; rfl
theorem bytesmarks_snoc (c id : Int) (n : Nat) : bytesmarks c id (n + 1) = bytesmarks c id n ++ [.int .u8 (bytesmark c id (n : Int))] := by
  unfold bytesmarks; rw [List.range_succ, List.map_append]; rfl
theorem bytesmarks_of {c id : Int} {n : Nat} {cs : List Value} (hl : cs.length = n) (h : ∀ j : Nat, j < n → cs[j]? = some (.int .u8 (bytesmark c id (j : Int)))) : cs = bytesmarks c id n := by
  apply List.ext_getElem?
  intro j
  by_cases hj : j < n
  · rw [h j hj, bytesmarks_get hj]
  · rw [List.getElem?_eq_none (by omega), List.getElem?_eq_none (by rw [bytesmarks_length]; omega)]

set_option maxRecDepth 100000 in
set_option maxHeartbeats 4000000 in
theorem bytesshow_any (w : World) (own : BOwn) (b : Nat) (F : Nat → Value) (hb : BookF 39 w own b F) (c : Int) (hc : F 1 = .int .i64 c) (hcc : 0 ≤ c ∧ c ≤ 1) (id : Int) (h0 : 0 ≤ id) (h1 : id ≤ 1000000) (v : Value) (n : Nat) (hn : n ≤ 134217728) (hr : w.ownsRow 0 5 1 v n (bytesmarks c id n)) :
    Calls Tryz.prog 121 #[.pointer (some ⟨b, 0, none⟩), v, .int .i64 id] w fun e w' => e = .returned (.bool true) ∧ w = w' := by
  have HB := Lib.hid hb
  have HC := Lib.hid hc
  have HR := Lib.hid hr
  obtain ⟨a, cap, rfl, hcap, _, hg⟩ := bk_slice hr
  have HG := Lib.hid hg
  clear hb hc hr hg
  go_enter Tryz.func121, Tryz.ntmps121
  go_wp2_with fail
  go_loopg [7, 8, 9] n (fun gm jv _ _ wr => ∃ (j : Nat), j ≤ n ∧ gm = n - j ∧ jv = .int .i64 j ∧ w = wr)
  case atStart => exact ⟨0, by omega, rfl, rfl, rfl⟩
  case round =>
    obtain ⟨j, hj, hgm, rfl, rfl⟩ := hrel
    have Hg := Lib.hid hgm
    clear hgm
    by_cases hlt : j < n
    · obtain ⟨g, rfl⟩ := HG.out (by omega)
      have hji : (j : Int) < (n : Int) := by omega
      have hj0 : (0 : Int) ≤ (j : Int) := by omega
      have hcell : w.cell? ⟨g, j, none⟩ = some (.int .u8 (bytesmark c id (j : Int))) := by
        have h := HR.out.cells rfl j _ (bytesmarks_get hlt)
        rw [bk_add, Nat.zero_add] at h
        exact h
      go_wp2_with fail
      refine (bytesmark_any _ own b F HB.out c HC.out hcc id (j : Int) h0 h1 (by omega) (by omega)).mono ?_
      rintro e w' ⟨rfl, rfl⟩
      obtain ⟨mv, hmv⟩ : ∃ mv, mv = bytesmark c id (j : Int) := ⟨_, rfl⟩
      rw [← hmv] at hcell ⊢
      clear hmv
      go_wp2_with fail
      go_roundg (n - (j + 1))
      case measure => have := Hg.out; omega
      case rel => exact ⟨j + 1, by omega, rfl, by go_num, rfl⟩
    · have hji : ¬ (j : Int) < (n : Int) := by omega
      go_wp2_with fail
      go_ret
      exact ⟨rfl, rfl⟩
end Go.Proofs.YtckioocahmbhkaaGreatDoor
