/- Walks: DiskPlays at large. -/
import Derived.Test.YtckioocahmbhkaaP12
namespace Go.Proofs.Ytckioocahmbhkaa
open Go Go.RowKit Go.Maps Go.MuLone

set_option maxRecDepth 100000 in
set_option maxHeartbeats 4000000 in
theorem plays_long (v2 : Value) (cap : Int) (a1 : Option Addr) (n c1 : Nat) (w : World) (hl : 524288 < n) :
    Calls Try.prog 7 #[.int .i64 cap, .slice a1 n c1, v2] w fun e w' => e = .returned (.bool true) ∧ Below w.heap.size w w' := by
  have hlI : (524288 : Int) < (n : Int) := by omega
  go_enter Try.func7, Try.ntmps7
  go_wp2_with (go_at_call 8; refine (first_any _).mono ?_; rintro e wa ⟨rfl, ba⟩)
  go_ret
  exact ⟨rfl, ba⟩

set_option maxRecDepth 100000 in
set_option maxHeartbeats 4000000 in
theorem plays_many (v2 : Value) (cap : Int) (a1 : Option Addr) (n c1 : Nat) (os : List OpD) (w : World) (h2 : OpsA w v2 os) (hl : n ≤ 524288) (hm : ¬ mostK (os.take 200) ≤ 10000) :
    Calls Try.prog 7 #[.int .i64 cap, .slice a1 n c1, v2] w fun e w' => e = .returned (.bool true) ∧ Below w.heap.size w w' := by
  have hlI : ¬ (524288 : Int) < (n : Int) := by omega
  have HD := Lib.hid (decide_eq_false hm)
  have H2 := Lib.hid h2
  clear h2 hm
  go_enter Try.func7, Try.ntmps7
  go_wp2_with (first
    | (go_at_call 8; refine (first_any _).mono ?_; rintro e wa ⟨rfl, ba⟩; have BA := Lib.hid ba; have HA2 := Lib.hid (opsA_below H2.out ba); clear ba)
    | (go_at_call 27; refine (small_any _ _ os HA2.out).mono ?_; rintro e w' ⟨rfl, rfl⟩; rw [HD.out]))
  go_ret
  exact ⟨rfl, BA.out⟩

theorem both_bad (w : World) (cap : Int) (a : Option Addr) (n c : Nat) (hn : n ≤ 524288) (h : cap < 2 ∨ 524287 < cap ∨ n % 4096 ≠ 0 ∨ cap < (n / 4096 : Nat)) :
    Calls Try.prog 24 #[.int .i64 cap, .slice a n c] w (fun e w' => e = .returned (.tuple #[.pointer none, .int .i64 120]) ∧ Chg (fun _ => False) w w') ∧
    Calls Try.prog 29 #[.int .i64 cap, .slice a n c] w (fun e w' => e = .returned (.tuple #[.pointer none, .int .i64 120]) ∧ Chg (fun _ => False) w w') := by
  by_cases h1 : cap < 2 ∨ 524287 < cap
  · exact ⟨(image_few w cap a n c h1).mono fun e w' ⟨x, y⟩ => ⟨x, y ▸ Chg.refl _ _⟩, (rimage_few w cap a n c h1).mono fun e w' ⟨x, y⟩ => ⟨x, y ▸ Chg.refl _ _⟩⟩
  · have h2 : n % 4096 ≠ 0 ∨ cap < (n / 4096 : Nat) := by omega
    exact ⟨image_odd w cap a n c (by omega) (by omega) (by unfold reach; omega) h2, rimage_odd w cap a n c (by omega) (by omega) (by unfold reach; omega) h2⟩

set_option maxRecDepth 100000 in
set_option maxHeartbeats 4000000 in
theorem plays_bad (v1 v2 : Value) (cap : Int) (bs : List UInt8) (os : List OpD) (w : World) (h1 : SeesB w v1 bs) (h2 : OpsA w v2 os)
    (hl : bs.length ≤ 524288) (hm : mostK (os.take 200) ≤ 10000) (hb : cap < 2 ∨ 524287 < cap ∨ bs.length % 4096 ≠ 0 ∨ cap < (bs.length / 4096 : Nat)) :
    Calls Try.prog 7 #[.int .i64 cap, v1, v2] w fun e w' => e = .returned (.bool true) ∧ Below w.heap.size w w' := by
  have H1 := Lib.hid h1
  have H2 := Lib.hid h2
  have G := Lib.hid hb
  obtain ⟨a1, c1, rfl, _⟩ := h1
  have hlI : ¬ (524288 : Int) < (bs.length : Int) := by omega
  have HD := Lib.hid (decide_eq_true hm)
  have hbl : bs.length ≤ 140737488351232 := by omega
  clear h2 hb
  go_enter Try.func7, Try.ntmps7
  go_wp2_with (first
    | (go_at_call 8; refine (first_any _).mono ?_; rintro e wa ⟨rfl, ba⟩; have BA := Lib.hid ba; have HA2 := Lib.hid (opsA_below H2.out ba); clear ba)
    | (go_at_call 27; refine (small_any _ _ os HA2.out).mono ?_; rintro e w' ⟨rfl, rfl⟩; rw [HD.out])
    | fail)
  have HSA : Hid (SeesB wa (.slice a1 bs.length c1) bs) := Lib.hid (seesB_under H1.out BA.out)
  refine (bytes_any wa _ bs HSA.out hbl).mono ?_
  rintro e wb ⟨gB, cB, rfl, hgB, hrB, hcB⟩
  have BB : Hid (Below w.heap.size w wb) := Lib.hid (BA.out.trans ((hcB.toBelow (fun _ f => f.elim)).mono BA.out.size))
  clear hgB hrB hcB BA HSA
  go_wp2_with (first
    | (go_at_call 24; refine (both_bad _ cap _ _ _ hl G.out).1.mono ?_; rintro e wc ⟨rfl, hc⟩; have BC : Hid (Below w.heap.size w wc) := Lib.hid (BB.out.trans ((hc.toBelow (fun _ f => f.elim)).mono BB.out.size)); clear hc)
    | (go_at_call 29; refine (both_bad _ cap _ _ _ hl G.out).2.mono ?_; rintro e wd ⟨rfl, hc⟩; have BD : Hid (Below w.heap.size w wd) := Lib.hid (BC.out.trans ((hc.toBelow (fun _ f => f.elim)).mono BC.out.size)); clear hc)
    | (go_at_call 12; refine (num_any _ _).mono ?_; rintro e w' ⟨rfl, rfl⟩))
  go_ret
  exact ⟨rfl, BD.out⟩

theorem plays_any (v1 v2 : Value) (cap : Int) (bs : List UInt8) (os : List OpD) (w : World) (h1 : SeesB w v1 bs) (hc1 : ∀ a n c, v1 = .slice a n c → n ≤ c ∧ c ≤ maxLen) (h2 : OpsA w v2 os) (h3 : OpsNil w v2) :
    Calls Try.prog 7 #[.int .i64 cap, v1, v2] w fun e w' => e = .returned (.bool true) ∧ Below w.heap.size w w' := by
  by_cases hl : bs.length ≤ 524288
  · by_cases hm : mostK (os.take 200) ≤ 10000
    · by_cases hb : cap < 2 ∨ 524287 < cap ∨ bs.length % 4096 ≠ 0 ∨ cap < (bs.length / 4096 : Nat)
      · exact plays_bad v1 v2 cap bs os w h1 h2 hl hm hb
      · exact plays_go v1 v2 cap bs os w h1 hc1 h2 h3 hl hm (by omega) (by omega) (by omega) (by omega)
    · obtain ⟨a1, c1, rfl, _⟩ := h1
      exact plays_many v2 cap a1 _ c1 os w h2 hl hm
  · obtain ⟨a1, c1, rfl, _⟩ := h1
    exact plays_long v2 cap a1 _ c1 w (by omega)
end Go.Proofs.Ytckioocahmbhkaa
