/- Walks: the laws DumpUnhexes, DumpHexes. -/
import Derived.Test.YteejkkidnohcfaaDoorW13
import Derived.Test.YteejkkidnohcfaaDoorW6
namespace Go.Proofs.YteejkkidnohcfaaDoor
open Go Go.RowKit Go.Maps

/-- What both Unhex's answer, read. -/
theorem UnhexAns.read {w w' : World} {t : Bytes} {e : Ending} (h : UnhexAns w w' t e) : ∃ a n c, e = .returned (.tuple #[.slice a n c, .int .i64 (if unhexB t = none then 201 else 0)]) ∧ SeesB w' (.slice a n c) ((unhexB t).getD []) := by
  rcases h with ⟨h1, rfl⟩ | ⟨a, bs, c, h1, rfl, hr, _⟩
  · exact ⟨none, 0, 0, by rw [h1]; rfl, by rw [h1]; exact SeesB.nil _ _ _⟩
  · refine ⟨a, bs.length, c, by rw [h1]; rfl, ?_⟩
    rw [h1]
    exact SeesB.of_row hr

set_option maxRecDepth 100000 in
set_option maxHeartbeats 8000000 in
theorem unhexes_law (w : World) (hE : Env w) (s : ByteArray) (hs : s.size ≤ 9223372036854775807) : Calls Tryd.prog 4 #[.string s] w fun e w' => e = .returned (.bool true) ∧ Chg (fun _ => False) w w' := by
  have HE := Lib.hid hE
  clear hE
  by_cases hb : 1048576 < s.size
  · have hbi : (1048576 : Int) < (s.size : Int) := by omega
    clear hb
    go_enter Tryd.func4, Tryd.ntmps4
    go_wp2_with (go_at_call 9; refine (first_any _ HE.out).mono ?_; rintro e w1 ⟨rfl, hc1⟩; have C1 := Lib.hid hc1; clear hc1)
    go_ret
    exact ⟨rfl, C1.out⟩
  · have hbi : ¬ (1048576 : Int) < (s.size : Int) := by omega
    obtain ⟨c, hc⟩ : ∃ c : Int, c = (if unhexB s.data.toList = none then 201 else 0) := ⟨_, rfl⟩
    have HC := Lib.hid hc
    clear hc
    go_enter Tryd.func4, Tryd.ntmps4
    go_wp2_with (go_at_call 9; refine (first_any _ HE.out).mono ?_; rintro e w1 ⟨rfl, hc1⟩; have C1 := Lib.hid hc1; clear hc1)
    refine (unhex_any _ s (by omega)).mono ?_
    rintro e w2 ⟨h2, hc2⟩
    obtain ⟨a2, n2, c2, rfl, hs2⟩ := h2.read
    rw [← HC.out]
    have C2 := Lib.hid (C1.out.trans hc2 (fun _ f => f.elim))
    have HS2 := Lib.hid hs2
    clear hc2 h2 hs2
    go_wp2_with (go_at_call 16; refine (runhex_any _ s (by omega)).mono ?_)
    rintro e w3 ⟨h3, hc3⟩
    obtain ⟨a3, n3, c3, rfl, hs3⟩ := h3.read
    rw [← HC.out]
    have C3 := Lib.hid (C2.out.trans hc3 (fun _ f => f.elim))
    have HS3 := Lib.hid hs3
    have HS2' := Lib.hid (HS2.out.chg0 hc3)
    clear hc3 h3 hs3
    go_wp2_with (first
      | (go_at_call 14; refine (same_any _ _ _ _ _ HS2'.out HS3.out).mono ?_; rintro e w' ⟨rfl, rfl⟩; rw [decide_eq_true rfl])
      | (go_at_call 15; refine (num_any _ _).mono ?_; rintro e w' ⟨rfl, rfl⟩))
    go_ret
    exact ⟨rfl, C3.out⟩
end Go.Proofs.YteejkkidnohcfaaDoor
