/- Walks: Write, refused; and Write as a whole. -/
import Derived.Test.YtckioocahmbhkaaGreatDoorW11
namespace Go.Proofs.YtckioocahmbhkaaGreatDoor
open Go Go.RowKit Go.Maps Go.MuLone

theorem write_neg (w : World) (own : Own) (b : Nat) (D : DS) (h : DiskAt w own 0 b D) (i : Int) (a : Option Addr) (n c : Nat) (hi : i < 0) :
    Calls Tryz.prog 6 #[.pointer (some ⟨b, 0, none⟩), .int .i64 i, .slice a n c] w fun e w' => e = .returned (.int .i64 121) ∧ DiskAt w' own 0 b D ∧ Chg (fun x => x = b) w w' := by
  have h1 := h.lock 0 1
  have hD1 := Lib.hid h1
  obtain ⟨hs, hfz⟩ := h.lockCell
  obtain ⟨hs1, hfz1⟩ := h1.lockCell
  clear h h1
  go_enter_defers Tryz.func6, Tryz.ntmps6
  go_wp2_with (go_at_call 21; refine (lock_free Tryz.muLib ⟨b, 0, none⟩ _ hs (hfz 0)).mono ?_; rintro e w' ⟨rfl, rfl⟩)
  refine leaves_cons (f := 22) (args := #[.pointer (some ⟨b, 0, none⟩)]) (by simp) (by simp [go_sem]) ?_
  refine (unlock_deferred Tryz.muLib ⟨b, 0, none⟩ .returning _ hs1 (hfz1 0)).mono ?_
  rintro e u' w'' ⟨rfl, rfl, rfl⟩
  exact ⟨_, results_tmp rfl _ _ _, rfl, unlocks hD1.out (chg1 _)⟩

set_option maxHeartbeats 800000 in
theorem write_far (w : World) (own : Own) (b : Nat) (D : DS) (h : DiskAt w own 0 b D) (hok : D.ok) (i : Nat) (a : Option Addr) (n c : Nat) (hi1 : D.pages < i) :
    Calls Tryz.prog 6 #[.pointer (some ⟨b, 0, none⟩), .int .i64 i, .slice a n c] w fun e w' => e = .returned (.int .i64 121) ∧ DiskAt w' own 0 b D ∧ Chg (fun x => x = b) w w' := by
  have h1 := h.lock 0 1
  have hD1 := Lib.hid h1
  have Hok := Lib.hid hok
  obtain ⟨hs, hfz⟩ := h.lockCell
  clear h h1 hok
  go_enter_defers Tryz.func6, Tryz.ntmps6
  go_wp2_with (go_at_call 21; refine (lock_free Tryz.muLib ⟨b, 0, none⟩ _ hs (hfz 0)).mono ?_; rintro e w' ⟨rfl, rfl⟩)
  refine (pages_any _ own 1 b D hD1.out Hok.out.no' Hok.out.len').mono ?_
  rintro e w1 ⟨rfl, hc1⟩
  have h2 := hD1.out.chg hc1 (fun _ _ f => f)
  have hD2 := Lib.hid h2
  obtain ⟨c2, h6, _, _, _⟩ := h2.cells
  obtain ⟨hs2, hfz2⟩ := h2.lockCell
  have Hc1 := Lib.hid hc1
  clear h2 hc1
  go_wp2
  refine leaves_cons (f := 22) (args := #[.pointer (some ⟨b, 0, none⟩)]) (by simp) (by simp [go_sem]) ?_
  refine (unlock_deferred Tryz.muLib ⟨b, 0, none⟩ .returning _ hs2 (hfz2 0)).mono ?_
  rintro e u' w'' ⟨rfl, rfl, rfl⟩
  exact ⟨_, results_tmp rfl _ _ _, rfl, unlocks hD2.out ((chg1 (b := b) (o := 0) _).trans Hc1.out (fun _ f => f.elim))⟩

set_option maxHeartbeats 800000 in
theorem write_cap (w : World) (own : Own) (b : Nat) (D : DS) (h : DiskAt w own 0 b D) (hok : D.ok) (i : Nat) (a : Option Addr) (n c : Nat) (hi1 : i ≤ D.pages) (hi2 : D.cap ≤ (i : Int)) :
    Calls Tryz.prog 6 #[.pointer (some ⟨b, 0, none⟩), .int .i64 i, .slice a n c] w fun e w' => e = .returned (.int .i64 125) ∧ DiskAt w' own 0 b D ∧ Chg (fun x => x = b) w w' := by
  have h1 := h.lock 0 1
  have hD1 := Lib.hid h1
  have Hok := Lib.hid hok
  obtain ⟨hs, hfz⟩ := h.lockCell
  clear h h1 hok
  go_enter_defers Tryz.func6, Tryz.ntmps6
  go_wp2_with (go_at_call 21; refine (lock_free Tryz.muLib ⟨b, 0, none⟩ _ hs (hfz 0)).mono ?_; rintro e w' ⟨rfl, rfl⟩)
  refine (pages_any _ own 1 b D hD1.out Hok.out.no' Hok.out.len').mono ?_
  rintro e w1 ⟨rfl, hc1⟩
  have h2 := hD1.out.chg hc1 (fun _ _ f => f)
  have hD2 := Lib.hid h2
  obtain ⟨c2, h6, _, _, _⟩ := h2.cells
  obtain ⟨hs2, hfz2⟩ := h2.lockCell
  have Hc1 := Lib.hid hc1
  clear h2 hc1
  go_wp2
  refine leaves_cons (f := 22) (args := #[.pointer (some ⟨b, 0, none⟩)]) (by simp) (by simp [go_sem]) ?_
  refine (unlock_deferred Tryz.muLib ⟨b, 0, none⟩ .returning _ hs2 (hfz2 0)).mono ?_
  rintro e u' w'' ⟨rfl, rfl, rfl⟩
  exact ⟨_, results_tmp rfl _ _ _, rfl, unlocks hD2.out ((chg1 (b := b) (o := 0) _).trans Hc1.out (fun _ f => f.elim))⟩

set_option maxHeartbeats 800000 in
theorem write_len (w : World) (own : Own) (b : Nat) (D : DS) (h : DiskAt w own 0 b D) (hok : D.ok) (i : Nat) (a : Option Addr) (n c : Nat) (hi1 : i ≤ D.pages) (hi2 : (i : Int) < D.cap) (hn : ((n : Int) != 4096) = true) :
    Calls Tryz.prog 6 #[.pointer (some ⟨b, 0, none⟩), .int .i64 i, .slice a n c] w fun e w' => e = .returned (.int .i64 122) ∧ DiskAt w' own 0 b D ∧ Chg (fun x => x = b) w w' := by
  have h1 := h.lock 0 1
  have hD1 := Lib.hid h1
  have Hok := Lib.hid hok
  obtain ⟨hs, hfz⟩ := h.lockCell
  clear h h1 hok
  go_enter_defers Tryz.func6, Tryz.ntmps6
  go_wp2_with (go_at_call 21; refine (lock_free Tryz.muLib ⟨b, 0, none⟩ _ hs (hfz 0)).mono ?_; rintro e w' ⟨rfl, rfl⟩)
  refine (pages_any _ own 1 b D hD1.out Hok.out.no' Hok.out.len').mono ?_
  rintro e w1 ⟨rfl, hc1⟩
  have h2 := hD1.out.chg hc1 (fun _ _ f => f)
  have hD2 := Lib.hid h2
  obtain ⟨c2, h6, _, _, _⟩ := h2.cells
  obtain ⟨hs2, hfz2⟩ := h2.lockCell
  have Hc1 := Lib.hid hc1
  clear h2 hc1
  go_wp2
  refine leaves_cons (f := 22) (args := #[.pointer (some ⟨b, 0, none⟩)]) (by simp) (by simp [go_sem]) ?_
  refine (unlock_deferred Tryz.muLib ⟨b, 0, none⟩ .returning _ hs2 (hfz2 0)).mono ?_
  rintro e u' w'' ⟨rfl, rfl, rfl⟩
  exact ⟨_, results_tmp rfl _ _ _, rfl, unlocks hD2.out ((chg1 (b := b) (o := 0) _).trans Hc1.out (fun _ f => f.elim))⟩

set_option maxHeartbeats 800000 in
theorem write_off (w : World) (own : Own) (b : Nat) (D : DS) (h : DiskAt w own 0 b D) (hok : D.ok) (i : Nat) (a : Option Addr) (n c : Nat) (hi1 : i ≤ D.pages) (hi2 : (i : Int) < D.cap) (hn : n = 4096) (hoff : D.off = true) :
    Calls Tryz.prog 6 #[.pointer (some ⟨b, 0, none⟩), .int .i64 i, .slice a n c] w fun e w' => e = .returned (.int .i64 123) ∧ DiskAt w' own 0 b D ∧ Chg (fun x => x = b) w w' := by
  have h1 := h.lock 0 1
  have hD1 := Lib.hid h1
  have Hok := Lib.hid hok
  obtain ⟨hs, hfz⟩ := h.lockCell
  clear h h1 hok
  go_enter_defers Tryz.func6, Tryz.ntmps6
  go_wp2_with (go_at_call 21; refine (lock_free Tryz.muLib ⟨b, 0, none⟩ _ hs (hfz 0)).mono ?_; rintro e w' ⟨rfl, rfl⟩)
  refine (pages_any _ own 1 b D hD1.out Hok.out.no' Hok.out.len').mono ?_
  rintro e w1 ⟨rfl, hc1⟩
  have h2 := hD1.out.chg hc1 (fun _ _ f => f)
  have hD2 := Lib.hid h2
  obtain ⟨c2, h6, _, _, _⟩ := h2.cells
  obtain ⟨hs2, hfz2⟩ := h2.lockCell
  have Hc1 := Lib.hid hc1
  rw [hoff] at h6
  subst hn
  clear hoff
  clear h2 hc1
  go_wp2
  refine leaves_cons (f := 22) (args := #[.pointer (some ⟨b, 0, none⟩)]) (by simp) (by simp [go_sem]) ?_
  refine (unlock_deferred Tryz.muLib ⟨b, 0, none⟩ .returning _ hs2 (hfz2 0)).mono ?_
  rintro e u' w'' ⟨rfl, rfl, rfl⟩
  exact ⟨_, results_tmp rfl _ _ _, rfl, unlocks hD2.out ((chg1 (b := b) (o := 0) _).trans Hc1.out (fun _ f => f.elim))⟩

def DS.write (D : DS) (i : Int) (p : List UInt8) : Int × DS :=
  if i < 0 ∨ (D.pages : Int) < i then (121, D) else if D.cap ≤ i then (125, D) else if p.length ≠ 4096 then (122, D) else if D.off then (123, D) else (if D.count.off then 123 else 0, D.put i.toNat p)

/-- Write, of a slice that shows p (of any address, if p is not a page). -/
theorem write_any (w : World) (own : Own) (b : Nat) (D : DS) (h : DiskAt w own 0 b D) (hok : D.ok) (i : Int) (a : Option Addr) (cap : Nat) (p : List UInt8)
    (ha : p.length = 4096 → ∃ g o, a = some ⟨g, o, none⟩ ∧ ¬ own.blocks g ∧ ∀ (j : Nat) (x : UInt8), p[j]? = some x → w.cell? ⟨g, o + j, none⟩ = some (bV x)) (hcap : p.length ≤ cap) (hc : D.cap ≤ 524287) (hwr : D.wr < 1000000) (hpn : D.pending.length < 1000000) :
    Calls Tryz.prog 6 #[.pointer (some ⟨b, 0, none⟩), .int .i64 i, .slice a p.length cap] w fun e w' => e = .returned (.int .i64 (D.write i p).1) ∧ ∃ own', DiskAt w' own' 0 b (D.write i p).2 ∧ Step w own w' own' := by
  by_cases h0 : i < 0
  · refine (write_neg w own b D h i a _ cap h0).mono ?_
    rintro e w' ⟨rfl, r1, r2⟩
    rw [show D.write i p = (121, D) by simp [DS.write, h0]]
    exact ⟨rfl, own, r1, Step.of_b h.str r2⟩
  · obtain ⟨n, rfl⟩ : ∃ n : Nat, i = n := ⟨i.toNat, by omega⟩
    by_cases h1 : D.pages < n
    · refine (write_far w own b D h hok n a _ cap h1).mono ?_
      rintro e w' ⟨rfl, r1, r2⟩
      rw [show D.write n p = (121, D) by simp [DS.write, h0, h1]]
      exact ⟨rfl, own, r1, Step.of_b h.str r2⟩
    · by_cases h2 : D.cap ≤ (n : Int)
      · refine (write_cap w own b D h hok n a _ cap (by omega) h2).mono ?_
        rintro e w' ⟨rfl, r1, r2⟩
        rw [show D.write n p = (125, D) by simp [DS.write, h0, h1, h2]]
        exact ⟨rfl, own, r1, Step.of_b h.str r2⟩
      · by_cases h3 : p.length = 4096
        · cases h4 : D.off with
          | true =>
            refine (write_off w own b D h hok n a _ cap (by omega) (by omega) h3 h4).mono ?_
            rintro e w' ⟨rfl, r1, r2⟩
            rw [show D.write n p = (123, D) by simp [DS.write, h0, h1, h2, h3, h4]]
            exact ⟨rfl, own, r1, Step.of_b h.str r2⟩
          | false =>
            obtain ⟨g, o, rfl, hg, hs⟩ := ha h3
            rw [h3] at hcap ⊢
            refine (write_go w own b D h hok n g o cap p h3 hcap hs hg (by omega) (by omega) (by omega) h4 hwr hpn).mono ?_
            rintro e w' ⟨rfl, own', r1, r2⟩
            rw [show D.write n p = (if D.count.off then 123 else 0, D.put n p) by simp [DS.write, h0, h1, h2, h3, h4]]
            exact ⟨rfl, own', r1, r2⟩
        · refine (write_len w own b D h hok n a _ cap (by omega) (by omega) (by rw [bne_iff_ne]; omega)).mono ?_
          rintro e w' ⟨rfl, r1, r2⟩
          rw [show D.write n p = (122, D) by simp [DS.write, h0, h1, h2, h3]]
          exact ⟨rfl, own, r1, Step.of_b h.str r2⟩

end Go.Proofs.YtckioocahmbhkaaGreatDoor
