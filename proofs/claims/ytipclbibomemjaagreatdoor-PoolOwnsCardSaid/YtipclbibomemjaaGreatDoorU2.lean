/- Walks: oldest, Free, Usable. -/
import Derived.Test.YtipclbibomemjaaGreatDoorU1
namespace Go.Proofs.YtipclbibomemjaaGreatDoor
open Go Go.RowKit Go.Maps

set_option maxRecDepth 100000 in
theorem oldest_any (w : World) (pb m1 m2 : Nat) (P : PS) (h : PoolF w pb m1 m2 P) :
    Calls Tryz.prog 24 #[.pointer (some ⟨pb, 0, none⟩)] w fun e w' => ∃ v, e = .returned (.int .i64 v) ∧ (∀ x ∈ P.pins, v ≤ x) ∧ (v = 9223372036854775807 ∨ v ∈ P.pins) ∧ Chg (fun _ => False) w w' := by
  obtain ⟨c0, c1, c2, c3, _⟩ := h.cells
  obtain ⟨M2, hown, hM⟩ := h.pn
  have HM := Lib.hid hM
  clear h hM
  go_enter Tryz.func24, Tryz.ntmps24
  go_wp2_with (first
    | (at_range; refine wpList_range_own _ rfl _ 62 rfl 3 3 law3 Tryz.underlying62 _ m2 _ _ rfl hown ?_; intro w0 hrg0 hg0 hs0)
    | go_in)
  go_frame
  go_loopw [3, 4] (fun vv _ wr => ∃ (left : Lit → Bool) (cnt : Nat) (v : Int), vv = .int .i64 v ∧ wr.ranges Tryz.prog 3 RI m2 w.heap.size P.wr M2 left cnt ∧ (∀ x ∈ P.pins, left (kI x) = false → v ≤ x) ∧ (v = 9223372036854775807 ∨ v ∈ P.pins) ∧ Chg (fun _ => False) w wr)
    (fun _ _ wr => wr.rangeLeft m2 w.heap.size)
  case atStart => exact ⟨_, _, _, rfl, hrg0, fun x hx hl => (by rw [(HM.out.has x).2 hx] at hl; cases hl), .inl rfl, (Chg.refl _ w).grown hg0 (fun k e => by cases e)⟩
  case round =>
    obtain ⟨left, cnt, v, rfl, hrg, hv1, hv2, hc⟩ := hrel
    have Hv1 := Lib.hid hv1
    have Hv2 := Lib.hid hv2
    clear hv1 hv2
    go_wp2_with (first
      | (at_next; refine wpList_next_ranges_ii _ rfl _ rfl 3 3 .i64 .i64 law3 Tryz.underlying3 Tryz.underlying3 m2 w.heap.size P.wr _ _ _ rfl hrg ?_ ?_)
      | go_in)
    · intro _ hl0
      go_wp2
      go_ret
      exact ⟨v, rfl, fun x hx => Hv1.out x hx (hl0 _), Hv2.out, hc⟩
    · intro x c w1 cnt1 hwx hwc hlx hat hrg1 hlt hg1 hs1 hen
      have Hx : Hid (x ∈ P.pins) := Lib.hid ((HM.out.has x).1 (has_true_of_atKey hat))
      have hc1 : Chg (fun _ => False) w w1 := hc.grown hg1 (fun k e => .inr (by cases e; exact Nat.le_refl _))
      have Hm : Hid (∀ u : Int, u ≤ v → u ≤ x → ∀ y ∈ P.pins, (left (kI y) && !(kI y).sameKey (kI x)) = false → u ≤ y) := Lib.hid (fun u h1 h2 y hy hl => by
        by_cases e : y = x
        · subst e; exact h2
        · rw [sameKey_ne (kI_ne e), Bool.not_false, Bool.and_true] at hl
          exact Int.le_trans h1 (Hv1.out y hy hl))
      by_cases hlt' : x < v
      · go_wp2
        refine ⟨⟨_, cnt1, x, rfl, hrg1, Hm.out x (by omega) (by omega), .inr Hx.out, hc1⟩, ?_⟩
        rw [hrg1.left_eq, hrg.left_eq]; exact hlt
      · go_wp2
        refine ⟨⟨_, cnt1, v, rfl, hrg1, Hm.out v (by omega) (by omega), Hv2.out, hc1⟩, ?_⟩
        rw [hrg1.left_eq, hrg.left_eq]; exact hlt
end Go.Proofs.YtipclbibomemjaaGreatDoor
