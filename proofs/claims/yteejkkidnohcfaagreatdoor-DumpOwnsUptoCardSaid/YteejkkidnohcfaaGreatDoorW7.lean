/- Walks: may. -/
import Derived.Test.YteejkkidnohcfaaGreatDoorW1
namespace Go.Proofs.YteejkkidnohcfaaGreatDoor
open Go Go.RowKit Go.Maps

/-- The key ahead, as the program hands it on. -/
def LastIs (w : World) (lv : Value) (first : Bool) (last : Option Bytes) : Prop :=
  match last with
  | none => first = true ∧ ∃ a n c, lv = .slice a n c
  | some m => first = false ∧ SeesB w lv m
theorem LastIs.slice {w : World} {lv : Value} {first : Bool} {last : Option Bytes} (h : LastIs w lv first last) : ∃ a n c, lv = .slice a n c := by
  cases last with
  | none => exact h.2
  | some m => obtain ⟨_, a, c, e, _⟩ := h; exact ⟨a, _, c, e⟩
theorem LastIs.chg0 {w w' : World} {lv : Value} {first : Bool} {last : Option Bytes} (h : LastIs w lv first last) (hc : Chg (fun _ => False) w w') : LastIs w' lv first last := by
  cases last with
  | none => exact h
  | some m => exact ⟨h.1, h.2.chg0 hc⟩

set_option maxRecDepth 100000 in
set_option maxHeartbeats 4000000 in
theorem may_any (w : World) (k v lv : Value) (kb vb : Bytes) (first : Bool) (last : Option Bytes) (hk : SeesB w k kb) (hv : SeesB w v vb) (hl : LastIs w lv first last) (bk : kb.length ≤ 1073741824) (bv : vb.length ≤ 1073741824) :
    Calls Tryz.prog 33 #[.agg #[k, v], lv, .bool first] w fun e w' => e = .returned (.int .i64 (mayB kb vb last)) ∧ Chg (fun _ => False) w w' := by
  have HK := Lib.hid hk
  have HV := Lib.hid hv
  have HL := Lib.hid hl
  obtain ⟨ka, kc, rfl, _, _⟩ := hk
  obtain ⟨va, vc, rfl, _, _⟩ := hv
  obtain ⟨la, ln, lc, rfl⟩ := hl.slice
  clear hl
  have HC : Hid (Chg (fun _ => False) w (w.alloc (.cells #[.slice ka kb.length kc, .slice va vb.length vc] 54))) := Lib.hid ((Chg.refl _ w).alloc _)
  by_cases h1 : 1 ≤ kb.length ∧ kb.length ≤ 255
  · have g1 : (decide (1 ≤ kb.length) && decide (kb.length ≤ 255)) = true := by simp [h1]
    have HG1 := Lib.hid g1
    by_cases h2 : 262144 < vb.length
    · have HR : Hid (mayB kb vb last = 41) := Lib.hid (by unfold mayB; rw [if_pos (.inr (.inr h2))])
      have g2 : (262144 : Int) < (vb.length : Int) := by omega
      clear h1 g1 h2
      go_enter Tryz.func33, Tryz.ntmps33
      go_wp2_with (go_at_call 42; refine (valid_any _ _ _ _ (by omega)).mono ?_; rintro e w5 ⟨rfl, rfl⟩; rw [HG1.out])
      go_ret
      exact ⟨by rw [HR.out]; rfl, HC.out⟩
    · have g2 : ¬ (262144 : Int) < (vb.length : Int) := by omega
      cases last with
      | none =>
        obtain rfl : first = true := HL.out.1
        have HR : Hid (mayB kb vb none = 0) := Lib.hid (by unfold mayB; rw [if_neg (by omega)])
        clear h1 g1 h2
        go_enter Tryz.func33, Tryz.ntmps33
        go_wp2_with (go_at_call 42; refine (valid_any _ _ _ _ (by omega)).mono ?_; rintro e w5 ⟨rfl, rfl⟩; rw [HG1.out])
        go_ret
        exact ⟨by rw [HR.out]; rfl, HC.out⟩
      | some m =>
        obtain ⟨rfl, hs⟩ := HL.out
        have HS := Lib.hid hs
        clear hs
        by_cases h3 : Op.bytesLess m kb = true
        · have HR : Hid (mayB kb vb (some m) = 0) := Lib.hid (by unfold mayB; rw [if_neg (by omega)]; simp [h3])
          have g3 : ¬ (0 : Int) ≤ Lib.compareBytes m kb := by rw [compare_less, h3]; simp
          obtain ⟨cv, hcv⟩ : ∃ cv, cv = Lib.compareBytes m kb := ⟨_, rfl⟩
          rw [← hcv] at g3
          have HCV := Lib.hid hcv
          clear h1 g1 h2 h3 hcv
          go_enter Tryz.func33, Tryz.ntmps33
          go_wp2_with (first
            | (go_at_call 42; refine (valid_any _ _ _ _ (by omega)).mono ?_; rintro e w5 ⟨rfl, rfl⟩; rw [HG1.out])
            | (go_at_call 103; refine (compare_any _ _ _ m kb (HS.out.chg0 HC.out) (HK.out.chg0 HC.out)).mono ?_; rintro e w5 ⟨rfl, rfl⟩; rw [← HCV.out]))
          go_ret
          exact ⟨by rw [HR.out]; rfl, HC.out⟩
        · have HR : Hid (mayB kb vb (some m) = 30) := Lib.hid (by unfold mayB; rw [if_neg (by omega)]; simp [h3])
          have g3 : (0 : Int) ≤ Lib.compareBytes m kb := by rw [compare_less]; simpa using h3
          obtain ⟨cv, hcv⟩ : ∃ cv, cv = Lib.compareBytes m kb := ⟨_, rfl⟩
          rw [← hcv] at g3
          have HCV := Lib.hid hcv
          clear h1 g1 h2 h3 hcv
          go_enter Tryz.func33, Tryz.ntmps33
          go_wp2_with (first
            | (go_at_call 42; refine (valid_any _ _ _ _ (by omega)).mono ?_; rintro e w5 ⟨rfl, rfl⟩; rw [HG1.out])
            | (go_at_call 103; refine (compare_any _ _ _ m kb (HS.out.chg0 HC.out) (HK.out.chg0 HC.out)).mono ?_; rintro e w5 ⟨rfl, rfl⟩; rw [← HCV.out]))
          go_ret
          exact ⟨by rw [HR.out]; rfl, HC.out⟩
  · have g1 : (decide (1 ≤ kb.length) && decide (kb.length ≤ 255)) = false := by
      rw [Bool.and_eq_false_iff, decide_eq_false_iff_not, decide_eq_false_iff_not]; omega
    have HG1 := Lib.hid g1
    have HR : Hid (mayB kb vb last = 41) := Lib.hid (by unfold mayB; rw [if_pos (by omega)])
    clear h1 g1
    go_enter Tryz.func33, Tryz.ntmps33
    go_wp2_with (go_at_call 42; refine (valid_any _ _ _ _ (by omega)).mono ?_; rintro e w5 ⟨rfl, rfl⟩; rw [HG1.out])
    go_ret
    exact ⟨by rw [HR.out]; rfl, HC.out⟩
end Go.Proofs.YteejkkidnohcfaaGreatDoor
