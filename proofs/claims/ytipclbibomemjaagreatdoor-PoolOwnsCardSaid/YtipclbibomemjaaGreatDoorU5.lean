/- Walks: Room, Lists. -/
import Derived.Test.YtipclbibomemjaaGreatDoorU4
import Derived.Deep.RegionHeld3
namespace Go.Proofs.YtipclbibomemjaaGreatDoor
open Go Go.RowKit Go.Maps

theorem wrapI {x : Int} (h1 : -9223372036854775808 ≤ x) (h2 : x ≤ 9223372036854775807) : IntKind.i64.wrap x = x := by
  rw [IntKind.wrap_i64]; omega
def PS.room (P : PS) : Int := (P.usable.length : Int) + P.cap - P.size
theorem usable_len {P : PS} (hok : P.ok) : P.usable.length ≤ 1000000 := Nat.le_trans (List.length_filter_le _ _) hok.len

set_option maxRecDepth 100000 in
set_option maxHeartbeats 4000000 in
theorem room_any (w : World) (pb m1 m2 : Nat) (P : PS) (h : PoolF w pb m1 m2 P) (hok : P.ok) (hcap : P.cap ≤ 1000000) :
    Calls Tryz.prog 17 #[.pointer (some ⟨pb, 0, none⟩)] w fun e w' => e = .returned (.int .i64 P.room) ∧ Chg (fun _ => False) w w' := by
  obtain ⟨c0, c1, c2, c3, _⟩ := h.cells
  have H := Lib.hid (h.chg0 (Chg.refl (fun _ => False) w).drew)
  have Hok := Lib.hid hok
  have hul := usable_len hok
  obtain ⟨u, hu⟩ : ∃ u, u = P.usable.length := ⟨_, rfl⟩
  rw [← hu] at hul
  have Hu := Lib.hid hu
  have hsz := hok.size
  have hw1 : IntKind.i64.wrap ((u : Int) + P.cap) = u + P.cap := wrapI (by omega) (by omega)
  have hw2 : IntKind.i64.wrap ((u : Int) + P.cap - P.size) = u + P.cap - P.size := wrapI (by omega) (by omega)
  clear h hok hu
  go_enter Tryz.func17, Tryz.ntmps17
  go_wp2_with fail
  go_region_held3 (fun w' => w'.cell? ⟨pb, 0, none⟩ = some (.int .i64 P.size) ∧ w'.cell? ⟨pb, 1, none⟩ = some (.int .i64 P.cap))
    (first
      | exact kx4
      | go_keep)
    (first
      | (go_simp; go_at_call 14; refine (usable_any _ _ _ _ _ H.out Hok.out).mono ?_; rintro e w4 ⟨v, rfl, hN, hc⟩; obtain ⟨a, c, e, _⟩ := ownsRow_slice hN.1; rw [nums_length, ← Hu.out] at e; subst e; have HC := Lib.hid ((Chg.refl (fun _ => False) w).drew.trans hc (fun _ f => f.elim)); have kx4 := And.intro (H.out.chg0 hc).cells.1 (H.out.chg0 hc).cells.2.1; clear hN hc))
  all_goals
    go_wp2_with fail
    go_ret
    exact ⟨by unfold PS.room; rw [← Hu.out]; rfl, HC.out⟩
end Go.Proofs.YtipclbibomemjaaGreatDoor
