/- Walks: full. -/
import Derived.Test.YtckioocahmbhkaaGreatDoorW3
namespace Go.Proofs.YtckioocahmbhkaaGreatDoor
open Go Go.RowKit Go.Maps Go.MuLone

/-- n times the same. -/
def rep {α : Type} (n : Nat) (x : α) : List α := List.replicate n x
theorem rep_length {α : Type} (n : Nat) (x : α) : (rep n x).length = n := by simp [rep]
theorem rep_set {α : Type} (k m : Nat) (x y : α) (h : k < m) : (rep k x ++ rep (m - k) y).set k x = rep (k + 1) x ++ rep (m - (k + 1)) y := by
  simp only [rep]
  apply List.ext_getElem
  · simp; omega
  · intro i h1 h2
    simp only [List.getElem_set, List.getElem_append, List.length_replicate, List.getElem_replicate]
    by_cases e : k = i
    · subst e; simp
    · by_cases e2 : i < k
      · simp [e, e2, show i < k + 1 by omega]
      · simp [e, e2, show ¬ i < k + 1 by omega]
theorem bVs_rep (n : Nat) (x : UInt8) : bVs (rep n x) = rep n (bV x) := by simp [bVs, rep]

set_option maxRecDepth 100000 in
theorem full_any (w : World) (x : UInt8) :
    Calls Tryz.prog 7 #[bV x] w fun e w' => e = .returned (.slice (some ⟨w.heap.size, 0, none⟩) 4096 4096) ∧ w'.ownsRow 0 5 1 (.slice (some ⟨w.heap.size, 0, none⟩) 4096 4096) 4096 (bVs (rep 4096 x)) ∧ Chg (fun _ => False) w w' ∧ w.heap.size < w'.heap.size := by
  obtain ⟨i0, hi, hz0, hz1, hz2⟩ := info_parts info5
  obtain ⟨B, hB⟩ : ∃ B, B = w.heap.size := ⟨_, rfl⟩
  rw [← hB]
  have HB := Lib.hid hB
  clear hB
  unfold bV
  go_enter Tryz.func7, Tryz.ntmps7
  go_wp2_with (at_make; refine wpList_make_full _ rfl _ _ 47 rfl 0 5 i0 (.int .u8 0) 1 Tryz.underlying47 hi hz0 hz1 .i64 .i64 4096 4096 4096 rfl rfl rfl rfl (by rw [hz2]; decide) (by decide) (Nat.zero_le _) ?_; intro w1 hown hg; rw [← HB.out] at hown ⊢)
  have hown1 : w1.ownsRow 0 5 1 (.slice (some ⟨B, 0, none⟩) 4096 4096) 4096 (rep 0 (bV x) ++ rep (4096 - 0) (.int .u8 0)) := by
    have e : (madeCells (Value.int .u8 0).cells (4096 * 1)).toList = rep 0 (bV x) ++ rep (4096 - 0) (.int .u8 0) := by
      show (madeCells #[.int .u8 0] 4096).toList = _
      rw [toList_madeCells_one]; rfl
    rw [← e]; exact hown
  have hc1 : Chg (fun _ => False) w w1 := (Chg.refl _ w).grown hg (fun k h => by cases h)
  have Hlt : Hid (w.heap.size < w1.heap.size) := by
    rcases hown.2 with ⟨h, _⟩ | ⟨g, cap, cur, h, _, hh, _⟩
    · cases h
    · cases h; rw [← HB.out]; exact heap_lt hh
  clear hown hg
  go_loopw [4] (fun i wr => ∃ k : Nat, k ≤ 4096 ∧ i = .int .i64 k ∧ wr.ownsRow 0 5 1 (.slice (some ⟨B, 0, none⟩) 4096 4096) 4096 (rep k (bV x) ++ rep (4096 - k) (.int .u8 0)) ∧ Chg (fun _ => False) w wr ∧ w.heap.size < wr.heap.size)
    (fun i _ => 4096 - (intOf i).toNat)
  case atStart => exact ⟨0, by omega, rfl, hown1, hc1, Hlt.out⟩
  case round =>
    obtain ⟨k, hk, rfl, hown, hc, hlt2⟩ := hrel
    by_cases hlt : k < 4096
    · have hcell := (hown.cellAt k (by omega))
      have hlen : (rep k (bV x) ++ rep (4096 - k) (Value.int .u8 0)).length = 4096 := by rw [List.length_append, rep_length, rep_length]; omega
      obtain ⟨u0, hcell2⟩ : ∃ u, wr.cell? ⟨B, k, none⟩ = some u := ⟨_, by rw [hcell]; exact List.getElem?_eq_getElem (by omega)⟩
      have hfz := hown.frozenAt k
      have Hown := Lib.hid (ownsRow_setCell hown k (bV x) (by omega))
      have Hlt2 := Lib.hid hlt2
      clear hown hcell hlen hown1 hlt2
      go_wp2
      go_roundw
      case rel =>
        refine ⟨k + 1, by omega, by go_num, ?_, hc.setCell (Or.inr (by rw [HB.out]; exact Nat.le_refl _)) _, by simp [World.setCell]; exact Hlt2.out⟩
        rw [← rep_set k 4096 _ _ hlt]
        exact Hown.out
      case measure => simp [intOf]; omega
    · go_wp2
      go_ret
      obtain rfl : k = 4096 := by omega
      refine ⟨rfl, ?_, hc, by rw [HB.out]; exact hlt2⟩
      rw [bVs_rep]
      have e : rep 4096 (bV x) = rep 4096 (bV x) ++ rep (4096 - 4096) (.int .u8 0) := by simp [rep]
      rw [e]; exact hown

end Go.Proofs.YtckioocahmbhkaaGreatDoor
