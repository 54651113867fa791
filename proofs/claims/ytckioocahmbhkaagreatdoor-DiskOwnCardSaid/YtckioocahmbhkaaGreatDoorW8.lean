/- Walks: Pages, Arm, New. -/
import Derived.Test.YtckioocahmbhkaaGreatDoorW7
import Derived.Outline
namespace Go.Proofs.YtckioocahmbhkaaGreatDoor
open Go Go.RowKit Go.Maps Go.MuLone

theorem pages_lock (w : World) (own : Own) (b : Nat) (D : DS) (h : DiskAt w own 0 b D) (hp : ∀ q ∈ D.pending, q.1 ≤ 1000000) (hl : D.lasting.length ≤ 1000000) :
    Calls Tryz.prog 20 #[.pointer (some ⟨b, 0, none⟩)] w fun e w' => e = .returned (.int .i64 D.pages) ∧ DiskAt w' own 0 b D ∧ Chg (fun x => x = b) w w' := by
  have h1 := h.lock 0 1
  have hD1 := Lib.hid h1
  have Hp := Lib.hid hp
  obtain ⟨hs, hfz⟩ := h.lockCell
  clear h h1 hp
  go_enter_defers Tryz.func20, Tryz.ntmps20
  go_wp2_with (first
    | (go_at_call 21; refine (lock_free Tryz.muLib ⟨b, 0, none⟩ _ hs (hfz 0)).mono ?_; rintro e w' ⟨rfl, rfl⟩)
    | (go_at_call 23; refine (pages_any _ own 1 b D hD1.out Hp.out hl).mono ?_; rintro e w1 ⟨rfl, hc⟩))
  have h2 := hD1.out.chg hc (fun _ _ f => f)
  obtain ⟨hs2, hfz2⟩ := h2.lockCell
  refine leaves_cons (f := 22) (args := #[.pointer (some ⟨b, 0, none⟩)]) (by simp) (by simp [go_sem]) ?_
  refine (unlock_deferred Tryz.muLib ⟨b, 0, none⟩ .returning _ hs2 (hfz2 0)).mono ?_
  rintro e u' w'' ⟨rfl, rfl, rfl⟩
  exact ⟨_, results_tmp rfl _ _ _, rfl, unlocks h2 ((chg1 (b := b) (o := 0) _).trans hc (fun _ f => f.elim))⟩

def DS.arm (D : DS) (k : Int) : Int × DS := if k < 0 then (124, D) else if D.off then (123, D) else (0, { D with fuse := k })

theorem arm_any (w : World) (own : Own) (b : Nat) (D : DS) (h : DiskAt w own 0 b D) (k : Int) (hk : k ≤ 9223372036854775807) :
    Calls Tryz.prog 17 #[.pointer (some ⟨b, 0, none⟩), .int .i64 k] w fun e w' => e = .returned (.int .i64 (D.arm k).1) ∧ DiskAt w' own 0 b (D.arm k).2 ∧ Chg (fun x => x = b) w w' := by
  have h1 := h.lock 0 1
  have hD1 := Lib.hid h1
  obtain ⟨hs, hfz⟩ := h.lockCell
  obtain ⟨_, h6, h7, _, _⟩ := h1.cells
  obtain ⟨hs1, hfz1⟩ := h1.lockCell
  have f7 := hfz1 7
  by_cases hk0 : k < 0
  · have e1 : D.arm k = (124, D) := by simp [DS.arm, hk0]
    have E1 := Lib.hid e1
    clear h h1 e1
    go_enter_defers Tryz.func17, Tryz.ntmps17
    go_wp2_with (go_at_call 21; refine (lock_free Tryz.muLib ⟨b, 0, none⟩ _ hs (hfz 0)).mono ?_; rintro e w' ⟨rfl, rfl⟩)
    refine leaves_cons (f := 22) (args := #[.pointer (some ⟨b, 0, none⟩)]) (by simp) (by simp [go_sem]) ?_
    refine (unlock_deferred Tryz.muLib ⟨b, 0, none⟩ .returning _ hs1 (hfz1 0)).mono ?_
    rintro e u' w'' ⟨rfl, rfl, rfl⟩
    rw [E1.out]
    exact ⟨_, results_tmp rfl _ _ _, rfl, unlocks hD1.out (chg1 _)⟩
  · cases hoff : D.off with
    | true =>
      have e1 : D.arm k = (123, D) := by simp [DS.arm, hk0, hoff]
      have E1 := Lib.hid e1
      rw [hoff] at h6
      clear h h1 e1 hoff
      go_enter_defers Tryz.func17, Tryz.ntmps17
      go_wp2_with (go_at_call 21; refine (lock_free Tryz.muLib ⟨b, 0, none⟩ _ hs (hfz 0)).mono ?_; rintro e w' ⟨rfl, rfl⟩)
      refine leaves_cons (f := 22) (args := #[.pointer (some ⟨b, 0, none⟩)]) (by simp) (by simp [go_sem]) ?_
      refine (unlock_deferred Tryz.muLib ⟨b, 0, none⟩ .returning _ hs1 (hfz1 0)).mono ?_
      rintro e u' w'' ⟨rfl, rfl, rfl⟩
      rw [E1.out]
      exact ⟨_, results_tmp rfl _ _ _, rfl, unlocks hD1.out (chg1 _)⟩
    | false =>
      have e1 : D.arm k = (0, { D with fuse := k }) := by simp [DS.arm, hk0, hoff]
      have E1 := Lib.hid e1
      rw [hoff] at h6
      clear h h1 e1 hoff
      go_enter_defers Tryz.func17, Tryz.ntmps17
      go_wp2_with (go_at_call 21; refine (lock_free Tryz.muLib ⟨b, 0, none⟩ _ hs (hfz 0)).mono ?_; rintro e w' ⟨rfl, rfl⟩)
      have h2 : DiskAt ((w.setCell ⟨b, 0, none⟩ (.int .i32 1)).setCell ⟨b, 7, none⟩ (.int .i64 k)) own 1 b { D with fuse := k } :=
        hD1.out.set 7 _ (fun _ _ _ _ => rfl) rfl rfl rfl ⟨by show 0 ≤ k; omega, hk⟩
      obtain ⟨hs2, hfz2⟩ := h2.lockCell
      refine leaves_cons (f := 22) (args := #[.pointer (some ⟨b, 0, none⟩)]) (by simp) (by simp [go_sem]) ?_
      refine (unlock_deferred Tryz.muLib ⟨b, 0, none⟩ .returning _ hs2 (hfz2 0)).mono ?_
      rintro e u' w'' ⟨rfl, rfl, rfl⟩
      rw [E1.out]
      exact ⟨_, results_tmp rfl _ _ _, rfl, unlocks h2 (chgS (chg1 _) _ _)⟩

theorem alloc_size2 (w : World) (o o' : Obj) : ((w.alloc o).alloc o').heap.size = w.heap.size + 2 := by simp

/-- A new disk's memory. -/
def own0 (H : Nat) : Own := fun k => if k = H then some .mp else if k = H + 1 then some .str else none

def DS.new (cap : Int) : DS := { cap := cap, lasting := [], pending := [], off := false, fuse := 0, done := 0, reads := 0, wr := 0 }

theorem new_no (w : World) (cap : Int) (h : cap < 2 ∨ 524287 < cap) :
    Calls Tryz.prog 5 #[.int .i64 cap] w fun e w' => e = .returned (.pointer none) ∧ w = w' := by
  have hmm := @run_makeMap Tryz.prog
  by_cases h1 : cap < 2
  · clear h
    go_enter Tryz.func5, Tryz.ntmps5
    go_wp2
    go_ret
    exact ⟨rfl, rfl⟩
  · have h2 : 524287 < cap := by omega
    clear h
    go_enter Tryz.func5, Tryz.ntmps5
    go_wp2
    go_ret
    exact ⟨rfl, rfl⟩

theorem new_lies (w : World) (cap : Int) : DiskAt ((w.alloc (.map #[] 0)).alloc (.cells #[.int .i32 0, .int .u32 0, .int .i64 cap, .slice none 0 0, .slice none 0 0, .map (some w.heap.size), .bool false, .int .i64 0, .int .i64 0, .int .i64 0] 76)) (own0 w.heap.size) 0 (w.heap.size + 1) (DS.new cap) := by
  have hne : ¬ w.heap.size + 1 = w.heap.size := by omega
  refine ⟨.int .u32 0, .slice none 0 0, .slice none 0 0, w.heap.size, ?_, ?_, ?_, ?_, ?_, ?_, ?_, ?_⟩
  · simp [own0]
  · have := two_new w (.map #[] 0) (.cells #[.int .i32 0, .int .u32 0, .int .i64 cap, .slice none 0 0, .slice none 0 0, .map (some w.heap.size), .bool false, .int .i64 0, .int .i64 0, .int .i64 0] 76)
    exact this
  · exact ⟨[], rfl, ⟨World.ownsRow_nil _ _ _ _, fun g e => by simp [Value.ownBlock] at e⟩, fun i p hi => by simp [DS.new] at hi⟩
  · exact ⟨[], rfl, ⟨World.ownsRow_nil _ _ _ _, fun g e => by simp [Value.ownBlock] at e⟩, fun i p hi => by simp [DS.new] at hi⟩
  · refine ⟨by simp [own0], .map [], (World.ownsMap_made w Tryz.prog 3 RV).alloc _, fun i => ?_⟩
    have : lastOf (DS.new cap).pending i = none := rfl
    rw [this]
    rfl
  · simp [DS.new]
  · simp [DS.new]
  · intro k hk
    simp only [Own.blocks, own0] at hk
    simp only [alloc_size2]
    by_cases e1 : k = w.heap.size
    · omega
    · by_cases e2 : k = w.heap.size + 1
      · omega
      · simp [e1, e2] at hk

set_option maxRecDepth 100000 in
theorem new_yes (w : World) (cap : Int) (h1 : 2 ≤ cap) (h2 : cap ≤ 524287) :
    Calls Tryz.prog 5 #[.int .i64 cap] w fun e w' => e = .returned (.pointer (some ⟨w.heap.size + 1, 0, none⟩)) ∧ DiskAt w' (own0 w.heap.size) 0 (w.heap.size + 1) (DS.new cap) ∧ Chg (fun _ => False) w w' := by
  have hmm := @run_makeMap Tryz.prog
  have hl := Lib.hid (new_lies w cap)
  go_enter Tryz.func5, Tryz.ntmps5
  go_wp2
  go_ret
  exact ⟨rfl, hl.out, ((Chg.refl _ _).alloc _).alloc _⟩

end Go.Proofs.YtckioocahmbhkaaGreatDoor
