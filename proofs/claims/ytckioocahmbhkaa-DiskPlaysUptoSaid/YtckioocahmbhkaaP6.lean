/- Walks: stands. -/
import Derived.Test.YtckioocahmbhkaaP5
import Derived.Deep.RegionHeld3
namespace Go.Proofs.Ytckioocahmbhkaa
open Go Go.RowKit Go.Maps Go.MuLone

set_option maxRecDepth 100000 in
set_option maxHeartbeats 4000000 in
theorem stands_any {w0 w : World} {pb b rb gl n cap : Nat} {own rown : Own} {D : DS} (h : PairF w0 w pb own b rown rb gl n cap D D) (hok : D.ok) :
    Calls Try.prog 31 #[.pointer (some ⟨pb, 0, none⟩)] w fun e w' => e = .returned (.bool true) ∧ PairF w0 w' pb own b rown rb gl n cap D D := by
  have H := Lib.hid (h.chg0 (Chg.refl (fun _ => False) w).drew)
  have Hok := Lib.hid hok
  have KX : Hid (∀ w', PairF w0 w' pb own b rown rb gl n cap D D → w'.cell? ⟨pb, 0, none⟩ = some (.pointer (some ⟨b, 0, none⟩)) ∧ w'.cell? ⟨pb, 1, none⟩ = some (.pointer (some ⟨rb, 0, none⟩)) ∧ w'.cell? ⟨rb, 0, none⟩ = some (.int .i64 D.cap) ∧ w'.cell? ⟨rb, 3, none⟩ = some (.bool D.off) ∧ w'.cell? ⟨rb, 5, none⟩ = some (.int .i64 D.done) ∧ w'.cell? ⟨rb, 6, none⟩ = some (.int .i64 D.reads)) :=
    Lib.hid fun w' h => ⟨h.cells.1, h.cells.2.1, h.rcells⟩
  obtain ⟨c0, c1, r0, r3, r5, r6⟩ := KX.out w h
  clear h hok
  go_enter Try.func31, Try.ntmps31
  go_wp2_with fail
  dsimp only [List.append]
  go_region_held3 (fun w' => w'.cell? ⟨pb, 0, none⟩ = some (.pointer (some ⟨b, 0, none⟩)) ∧ w'.cell? ⟨pb, 1, none⟩ = some (.pointer (some ⟨rb, 0, none⟩)) ∧ w'.cell? ⟨rb, 0, none⟩ = some (.int .i64 D.cap) ∧ w'.cell? ⟨rb, 3, none⟩ = some (.bool D.off) ∧ w'.cell? ⟨rb, 5, none⟩ = some (.int .i64 D.done) ∧ w'.cell? ⟨rb, 6, none⟩ = some (.int .i64 D.reads))
    (first
      | exact kx4
      | exact kx5
      | exact kx6
      | exact kx7
      | go_keep)
    (first
      | (go_simp; go_at_call 25; refine (cap_st H.out.st rfl).mono ?_; rintro e w' ⟨rfl, rfl⟩)
      | (go_simp; go_at_call 16; refine (pages_st H.out.st Hok.out rfl).mono ?_; rintro e w4 ⟨rfl, s4, t4⟩; have P4 := H.out.stepD s4 t4; have kx4 := KX.out w4 P4; have HP4 := Lib.hid P4; clear s4 t4 P4)
      | (go_simp; go_at_call 50; refine (rpages_any _ _ _ _ HP4.out.rs.disk Hok.out).mono ?_; rintro e w' ⟨rfl, rfl⟩)
      | (go_simp; go_at_call 19; refine (power_st HP4.out.st rfl).mono ?_; rintro e w5 ⟨rfl, s5, t5⟩; have P5 := HP4.out.stepD s5 t5; have kx5 := KX.out w5 P5; have HP5 := Lib.hid P5; clear s5 t5 P5)
      | (go_simp; go_at_call 20; refine (done_st HP5.out.st rfl).mono ?_; rintro e w6 ⟨rfl, s6, t6⟩; have P6 := HP5.out.stepD s6 t6; have kx6 := KX.out w6 P6; have HP6 := Lib.hid P6; clear s6 t6 P6)
      | (go_simp; go_at_call 26; refine (reads_st HP6.out.st rfl).mono ?_; rintro e w7 ⟨rfl, s7, t7⟩; have P7 := HP6.out.stepD s7 t7; have kx7 := KX.out w7 P7; have HP7 := Lib.hid P7; clear s7 t7 P7))
  go_wp2_with fail
  go_ret
  exact ⟨rfl, HP7.out⟩
end Go.Proofs.Ytckioocahmbhkaa
