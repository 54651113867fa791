/- Walks: Commit. -/
import Derived.Test.YtipclbibomemjaaGreatDoorU7
namespace Go.Proofs.YtipclbibomemjaaGreatDoor
open Go Go.RowKit Go.Maps

set_option maxRecDepth 100000 in
set_option maxHeartbeats 8000000 in
theorem commit_no (w : World) (pb m1 m2 : Nat) (P : PS) (h : PoolF w pb m1 m2 P) (hok : P.ok) (hcap : P.cap ≤ 1000000) (d : Int) (hd : d ≤ 9223372036854775807) (hd0 : -9223372036854775808 ≤ d) (v : Value) (gone : List Int) (hs : SeesI w v gone) (hl : gone.length ≤ 1000000) (hwf : ∀ x ∈ gone, (Lit.int .i64 x).wf = true) (ver : Int)
    (hno : P.lists d gone < 0 ∨ P.room - P.lists d gone < d) (hf : P.lists d gone ≤ 2000000) :
    Calls Tryz.prog 11 #[.pointer (some ⟨pb, 0, none⟩), .int .i64 d, v, .int .i64 ver] w fun e w' => e = .returned (.tuple #[.slice none 0 0, .int .i64 (P.commit d gone ver).2.1]) ∧ (P.commit d gone ver).2.2 = P ∧ (P.commit d gone ver).1 = [] ∧ Chg (fun _ => False) w w' := by
  have H := Lib.hid h
  have HS := Lib.hid hs
  have Hok := Lib.hid hok
  have HWF := Lib.hid hwf
  obtain ⟨f, hfe⟩ : ∃ f, P.lists d gone = f := ⟨_, rfl⟩
  obtain ⟨r, hre⟩ : ∃ r, P.room = r := ⟨_, rfl⟩
  have hrb : -1000000 ≤ r ∧ r ≤ 3000000 := by
    rw [← hre]; unfold PS.room
    have := usable_len hok
    have := hok.size
    omega
  rw [hfe] at hno hf
  rw [hre] at hno
  have HF := Lib.hid hfe
  have HR := Lib.hid hre
  have hC : Hid (f < 0 → P.commit d gone ver = ([], 171, P)) := Lib.hid (fun h1 => by unfold PS.commit; rw [hfe, if_pos h1])
  have hC2 : Hid (¬ f < 0 → r - f < d → P.commit d gone ver = ([], 170, P)) := Lib.hid (fun h1 h2 => by unfold PS.commit; rw [hfe, hre, if_neg h1, if_pos h2])
  clear h hs hok hwf hfe hre
  by_cases h1 : f < 0
  · go_enter Tryz.func11, Tryz.ntmps11
    go_wp2_with (go_at_call 18; refine (lists_any _ _ _ _ _ H.out Hok.out d _ gone HS.out hl HWF.out).mono ?_; rintro e w1 ⟨rfl, hc1⟩; rw [HF.out])
    go_ret2
    rw [hC.out h1]
    exact ⟨rfl, rfl, rfl, hc1⟩
  · have h2 : r - f < d := hno.resolve_left h1
    go_enter Tryz.func11, Tryz.ntmps11
    go_wp2_with (first
      | (go_at_call 18; refine (lists_any _ _ _ _ _ H.out Hok.out d _ gone HS.out hl HWF.out).mono ?_; rintro e w1 ⟨rfl, hc1⟩; rw [HF.out])
      | (go_at_call 17; refine (room_any _ _ _ _ _ (H.out.chg0 hc1) Hok.out hcap).mono ?_; rintro e w2 ⟨rfl, hc2⟩; rw [HR.out]))
    go_ret2
    rw [hC2.out h1 h2]
    exact ⟨rfl, rfl, rfl, hc1.trans hc2 (fun _ f => f.elim)⟩
end Go.Proofs.YtipclbibomemjaaGreatDoor
