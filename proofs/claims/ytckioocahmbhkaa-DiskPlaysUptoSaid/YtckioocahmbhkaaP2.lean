/- Walks: the program's Rot at large; Image at large, both. -/
import Derived.Test.YtckioocahmbhkaaP1
namespace Go.Proofs.Ytckioocahmbhkaa
open Go Go.RowKit Go.Maps Go.MuLone

set_option maxRecDepth 100000 in
set_option maxHeartbeats 4000000 in
theorem prot_any (w : World) (own : Own) (b : Nat) (D : DS) (h : DiskAt w own 0 b D) (hok : D.ok) (hn : D.pending.length ≤ 1000000) (i at' x : Int) :
    Calls Try.prog 46 #[.pointer (some ⟨b, 0, none⟩), .int .i64 i, .int .i64 at', .int .i64 x] w fun e w' => e = .returned (.int .i64 (D.rot i at' x).1) ∧ ∃ own', DiskAt w' own' 0 b (D.rot i at' x).2 ∧ Step w own w' own' := by
  have hstr := h.str
  have Hstr := Lib.hid hstr
  by_cases h1 : i < 0 ∨ (D.lasting.length : Int) ≤ i
  · have he : Hid (D.rot i at' x = (121, D)) := Lib.hid (by unfold DS.rot; rw [if_pos h1])
    have h0' := h.lock 0 1
    have hD1 := Lib.hid h0'
    obtain ⟨hs, hfz⟩ := h.lockCell
    obtain ⟨hs1, hfz1⟩ := h0'.lockCell
    obtain ⟨sema, lv, pv, m, hF⟩ := h0'
    obtain ⟨c3, _, _⟩ := hF.fields
    obtain ⟨la, lc, rfl⟩ := hF.last.form
    clear hF hok h hstr
    by_cases h0 : i < 0
    · clear h1
      go_enter_defers Try.func46, Try.ntmps46
      go_wp2_with (go_at_call 32; refine (lock_free Try.muLib ⟨b, 0, none⟩ _ hs (hfz 0)).mono ?_; rintro e w' ⟨rfl, rfl⟩)
      refine leaves_cons (f := 33) (args := #[.pointer (some ⟨b, 0, none⟩)]) (by simp) (by simp [go_sem]) ?_
      refine (unlock_deferred Try.muLib ⟨b, 0, none⟩ .returning _ hs1 (hfz1 0)).mono ?_
      rintro e u' w'' ⟨rfl, rfl, rfl⟩
      refine ⟨_, results_tmp rfl _ _ _, ?_⟩
      rw [he.out]
      exact ⟨rfl, own, (unlocks hD1.out (chg1 _)).1, Step.of_b Hstr.out (unlocks hD1.out (chg1 _)).2⟩
    · have h2 := h1.resolve_left h0
      clear h1
      go_enter_defers Try.func46, Try.ntmps46
      go_wp2_with (go_at_call 32; refine (lock_free Try.muLib ⟨b, 0, none⟩ _ hs (hfz 0)).mono ?_; rintro e w' ⟨rfl, rfl⟩)
      refine leaves_cons (f := 33) (args := #[.pointer (some ⟨b, 0, none⟩)]) (by simp) (by simp [go_sem]) ?_
      refine (unlock_deferred Try.muLib ⟨b, 0, none⟩ .returning _ hs1 (hfz1 0)).mono ?_
      rintro e u' w'' ⟨rfl, rfl, rfl⟩
      refine ⟨_, results_tmp rfl _ _ _, ?_⟩
      rw [he.out]
      exact ⟨rfl, own, (unlocks hD1.out (chg1 _)).1, Step.of_b Hstr.out (unlocks hD1.out (chg1 _)).2⟩
  · obtain ⟨n, rfl⟩ : ∃ n : Nat, i = n := ⟨i.toNat, by omega⟩
    have hnl : n < D.lasting.length := by omega
    by_cases h2 : at' < 0 ∨ 4096 ≤ at' ∨ x < 1 ∨ 255 < x
    · have he : Hid (D.rot n at' x = (124, D)) := Lib.hid (by unfold DS.rot; rw [if_neg h1, if_pos h2])
      have h0' := h.lock 0 1
      have hD1 := Lib.hid h0'
      obtain ⟨hs, hfz⟩ := h.lockCell
      obtain ⟨hs1, hfz1⟩ := h0'.lockCell
      obtain ⟨sema, lv, pv, m, hF⟩ := h0'
      obtain ⟨c3, _, _⟩ := hF.fields
      obtain ⟨la, lc, rfl⟩ := hF.last.form
      have k1 : ¬ (n : Int) < 0 := by omega
      have k2 : ¬ (D.lasting.length : Int) ≤ (n : Int) := by omega
      clear hF hok h1 h hstr
      have hcases : at' < 0 ∨ (0 ≤ at' ∧ 4096 ≤ at') ∨ (0 ≤ at' ∧ at' < 4096 ∧ x < 1) ∨ (0 ≤ at' ∧ at' < 4096 ∧ 1 ≤ x ∧ 255 < x) := by omega
      clear h2
      rcases hcases with g1 | ⟨g0, g1⟩ | ⟨g0, g1, g2⟩ | ⟨g0, g1, g2, g3⟩
      all_goals
        go_enter_defers Try.func46, Try.ntmps46
        go_wp2_with (go_at_call 32; refine (lock_free Try.muLib ⟨b, 0, none⟩ _ hs (hfz 0)).mono ?_; rintro e w' ⟨rfl, rfl⟩)
        refine leaves_cons (f := 33) (args := #[.pointer (some ⟨b, 0, none⟩)]) (by simp) (by simp [go_sem]) ?_
        refine (unlock_deferred Try.muLib ⟨b, 0, none⟩ .returning _ hs1 (hfz1 0)).mono ?_
        rintro e u' w'' ⟨rfl, rfl, rfl⟩
        refine ⟨_, results_tmp rfl _ _ _, ?_⟩
        rw [he.out]
        exact ⟨rfl, own, (unlocks hD1.out (chg1 _)).1, Step.of_b Hstr.out (unlocks hD1.out (chg1 _)).2⟩
    · obtain ⟨m, rfl⟩ : ∃ m : Nat, at' = m := ⟨at'.toNat, by omega⟩
      have he : D.rot n m x = (0, D.rotted n m (UInt8.ofNat x.toNat)) := by unfold DS.rot; rw [if_neg h1, if_neg h2]; simp
      rw [he]
      refine (prot_go w own b D h hok hn n m x hnl (by omega) (by omega) (by omega)).mono ?_
      rintro e w' ⟨rfl, r1, r2⟩
      exact ⟨rfl, own, r1, r2⟩

end Go.Proofs.Ytckioocahmbhkaa
