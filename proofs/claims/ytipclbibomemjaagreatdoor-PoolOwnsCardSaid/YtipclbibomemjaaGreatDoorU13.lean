/- The chapter's example: the law's first. -/
import Derived.Test.YtipclbibomemjaaGreatDoorU12
namespace Go.Proofs.YtipclbibomemjaaGreatDoor
open Go Go.RowKit Go.Maps

theorem wfL {zs : List Int} (h : zs.all (fun x => (Lit.int .i64 x).wf) = true) : ∀ x ∈ zs, (Lit.int .i64 x).wf = true := fun x hx => List.all_eq_true.1 h x hx
theorem far_cells {w0 w : World} {pb m1 m2 : Nat} {P : PS} {o : Obj} {k : Nat} {gone : List Int} (h : Pl w0 w pb m1 m2 P) : ∀ ad n c, (.slice (some ⟨w.heap.size, 0, none⟩) k k : Value) = .slice (some ad) n c → gone ≠ [] → ad.block ≠ pb ∧ ad.block ≠ m1 ∧ ad.block < (w.alloc o).heap.size := by
  intro ad n c e _
  cases e
  obtain ⟨l0, l1, l2⟩ := h.pool.lt
  exact ⟨by show w.heap.size ≠ pb; omega, by show w.heap.size ≠ m1; omega, by simp⟩

theorem sameI_yes (w : World) (v1 v2 : Value) (zs : List Int) (h1 : SeesI w v1 zs) (h2 : SeesI w v2 zs) (hl : zs.length ≤ 9223372036854775807) : Calls Tryz.prog 16 #[v1, v2] w fun e w' => e = .returned (.bool true) ∧ Chg (fun _ => False) w w' :=
  (sameI_any w v1 v2 zs zs h1 h2 hl).mono fun _ _ ⟨h, k⟩ => ⟨by rw [h, decide_eq_true rfl], k⟩

theorem NewI.keep {w0 w1 w2 : World} {v : Value} {zs : List Int} {S : Nat → Prop} (h : NewI w0 w1 v zs) (hc : Chg S w1 w2) (hs : ∀ k, S k → k < w0.heap.size) : NewI w0 w2 v zs :=
  ⟨ownsRow_chg h.1 hc (fun g e f => by have := h.2 g e; have := hs g f; omega), h.2⟩
theorem NewI.sees {w0 w : World} {v : Value} {zs : List Int} (h : NewI w0 w v zs) : SeesI w v zs := SeesI.of_row h.1

set_option maxRecDepth 100000 in
set_option maxHeartbeats 4000000 in
theorem first_any (w : World) : Calls Tryz.prog 4 #[] w fun e w' => e = .returned (.bool true) ∧ Below w.heap.size w w' := by
  go_enter Tryz.func4, Tryz.ntmps4
  go_wp2_with fail
  refine (new_yes _ _ [3, 5, 6] (sees_new w [3, 5, 6]) 10 12 (by decide) f_new_ok).mono ?_
  rintro e w1 ⟨pb, m1, m2, rfl, hp, hc, g0, g1, g2⟩
  rw [f_new] at hp
  have s1 : Pl w w1 pb m1 m2 F0 := ⟨hp, ((Chg.refl _ w).alloc _).trans hc (fun _ f => f.elim), by simp at g0; omega, by simp at g1; omega, by simp at g2; omega⟩
  have S1 := Lib.hid s1
  clear hp hc g0 g1 g2 s1
  go_wp2_with fail
  refine (room_pl S1.out (ok_of (.inl rfl) rfl) (by decide) f_room).mono ?_
  rintro e w2 ⟨rfl, s2, _⟩
  have S2 := Lib.hid s2
  clear s2 S1
  go_wp2_with fail
  refine (lists_pl S2.out (ok_of (.inl rfl) rfl) 1 (gone := []) ⟨none, 0, rfl, fun _ => rfl, fun ad e => by cases e⟩ (by decide) (by intro x hx; cases hx) f_lists).mono ?_
  rintro e w3 ⟨rfl, s3, _⟩
  have S3 := Lib.hid s3
  clear s3 S2
  go_wp2_with fail
  refine (commit_pl (S3.out.other0 ((Chg.refl _ w3).alloc _)) (ok_of (.inl rfl) rfl) (by decide) 1 (by decide) (by decide) (sees_new w3 [4, 9]) (by decide) (wfL (by decide)) 7 (by decide) (far_cells S3.out) f_commit).mono ?_
  rintro e w4 ⟨ac, cc, rfl, hN, s4, _⟩
  have S4 := Lib.hid s4
  have L : Hid (∀ k, k = m2 → k < (w3.alloc (.cells #[.int .i64 4, .int .i64 9] 3)).heap.size) := Lib.hid (fun k e => by subst e; have := S3.out.pool.lt.2.2; simp; omega)
  have N4 := Lib.hid hN
  clear s4 S3 hN
  go_wp2_with fail
  refine (pin_pl S4.out (by decide) (by decide) 6 (by decide) f_pin).mono ?_
  rintro e w5 ⟨rfl, s5, hc⟩
  have S5 := Lib.hid s5
  have N5 := Lib.hid (N4.out.keep hc L.out)
  clear s5 S4 hc N4
  go_wp2_with fail
  refine (usable_pl S5.out (ok_of (.inr rfl) rfl) f_usable).mono ?_
  rintro e w6 ⟨ad, cd, rfl, hN, s6, hc⟩
  have S6 := Lib.hid s6
  have L6 : Hid (∀ k, k = m2 → k < w5.heap.size) := Lib.hid (fun k e => by subst e; exact S5.out.pool.lt.2.2)
  have D6 := Lib.hid hN
  have N6 := Lib.hid (N5.out.keep hc (fun _ f => f.elim))
  clear s6 S5 hc N5 hN
  go_wp2_with fail
  refine (unpin_pl S6.out (by decide) (by decide) 6 (by decide) f_unpin (b := true) (by decide)).mono ?_
  rintro e w7 ⟨rfl, s7, hc⟩
  have S7 := Lib.hid s7
  have N7 := Lib.hid (N6.out.keep hc L.out)
  have D7 := Lib.hid (D6.out.keep hc L6.out)
  clear s7 S6 hc N6 D6
  go_wp2_with fail
  refine (unpin_pl S7.out (by decide) (by decide) 6 (by decide) f_unpin2 (b := false) (by decide)).mono ?_
  rintro e w8 ⟨rfl, s8, hc⟩
  have S8 := Lib.hid s8
  have N8 := Lib.hid (N7.out.keep hc L.out)
  have D8 := Lib.hid (D7.out.keep hc L6.out)
  clear s8 S7 hc N7 D7
  go_wp2_with fail
  refine (free_pl S8.out (ok_of (.inr rfl) rfl) f_free).mono ?_
  rintro e w9 ⟨ah, ch, rfl, hN, s9, hc⟩
  have S9 := Lib.hid s9
  have H9 := Lib.hid hN.sees
  have N9 := Lib.hid (N8.out.keep hc (fun _ f => f.elim)).sees
  have D9 := Lib.hid (D8.out.keep hc (fun _ f => f.elim)).sees
  clear s9 S8 hc N8 D8 hN L L6
  go_wp2_with fail
  refine (sameI_yes _ _ _ [3, 5] (N9.out.chg0 ((Chg.refl _ _).alloc _)) (sees_new w9 [3, 5]) (by decide)).mono ?_
  rintro e w10 ⟨rfl, hc⟩
  have C10 : Hid (Chg (fun _ => False) w9 w10) := Lib.hid (((Chg.refl _ w9).alloc _).trans hc (fun _ f => f.elim))
  have S10 := Lib.hid (S9.out.other0 C10.out)
  have D10 := Lib.hid (D9.out.chg0 C10.out)
  have H10 := Lib.hid (H9.out.chg0 C10.out)
  clear hc C10 S9 D9 H9 N9
  go_wp2_with fail
  refine (sameI_yes _ _ _ [6] (D10.out.chg0 ((Chg.refl _ _).alloc _)) (sees_new w10 [6]) (by decide)).mono ?_
  rintro e w11 ⟨rfl, hc⟩
  have C11 : Hid (Chg (fun _ => False) w10 w11) := Lib.hid (((Chg.refl _ w10).alloc _).trans hc (fun _ f => f.elim))
  have S11 := Lib.hid (S10.out.other0 C11.out)
  have H11 := Lib.hid (H10.out.chg0 C11.out)
  clear hc C11 S10 D10 H10
  go_wp2_with fail
  refine (sameI_yes _ _ _ [4, 6, 9] (H11.out.chg0 ((Chg.refl _ _).alloc _)) (sees_new w11 [4, 6, 9]) (by decide)).mono ?_
  rintro e w12 ⟨rfl, hc⟩
  have S12 := Lib.hid (S11.out.other0 (((Chg.refl _ w11).alloc _).trans hc (fun _ f => f.elim)))
  clear hc S11 H11
  go_wp2_with fail
  refine (commit_pl (S12.out.other0 ((Chg.refl _ w12).alloc _)) (ok_of (.inr rfl) rfl) (by decide) 0 (by decide) (by decide) (sees_new w12 [4]) (by decide) (wfL (by decide)) 8 (by decide) (far_cells S12.out) f_commit2).mono ?_
  rintro e w13 ⟨_, _, rfl, _, s13, _⟩
  have S13 := Lib.hid s13
  clear s13 S12
  go_wp2_with (first
    | (go_at_call 19; refine (num_any _ _).mono ?_; rintro e w' ⟨rfl, rfl⟩)
    | (go_at_call 20; refine (count_pl S13.out (n := 10) rfl).mono ?_; rintro e w' ⟨rfl, rfl⟩))
  go_ret
  exact ⟨rfl, S13.out.chg.toBelow (fun _ f => f.elim)⟩
end Go.Proofs.YtipclbibomemjaaGreatDoor
