/- Walks: SameBytes, Less, num, Valid, Compare, Bytes. -/
import Derived.Test.YteejkkidnohcfaaGreatDoorD1
import Derived.Lib.BytesEntry
namespace Go.Proofs.YteejkkidnohcfaaGreatDoor
open Go Go.RowKit Go.Maps

theorem same_any (w : World) (v1 v2 : Value) (p q : Bytes) (h1 : SeesB w v1 p) (h2 : SeesB w v2 q) :
    Calls Tryz.prog 43 #[v1, v2] w fun e w' => e = .returned (.bool (decide (p = q))) ∧ w = w' := by
  have c1 := h1.conv
  have c2 := h2.conv
  obtain ⟨a1, n1, rfl, _, _⟩ := h1
  obtain ⟨a2, n2, rfl, _, _⟩ := h2
  go_enter Tryz.func43, Tryz.ntmps43
  go_wp2
  go_ret
  refine ⟨?_, rfl⟩
  show Ending.returned (Value.bool (p == q)) = _
  rw [show (p == q) = decide (p = q) by rw [Bool.eq_iff_iff]; simp]

theorem less_any (w : World) (v1 v2 : Value) (p q : Bytes) (h1 : SeesB w v1 p) (h2 : SeesB w v2 q) :
    Calls Tryz.prog 37 #[v1, v2] w fun e w' => e = .returned (.bool (Op.bytesLess p q)) ∧ w = w' := by
  have c1 := h1.conv
  have c2 := h2.conv
  obtain ⟨a1, n1, rfl, _, _⟩ := h1
  obtain ⟨a2, n2, rfl, _, _⟩ := h2
  go_enter Tryz.func37, Tryz.ntmps37
  go_wp2
  go_ret
  exact ⟨rfl, rfl⟩

theorem num_any (w : World) (n : Int) : Calls Tryz.prog 9 #[.int .i64 n] w fun e w' => e = .returned (.int .i64 n) ∧ w = w' := by
  go_enter Tryz.func9, Tryz.ntmps9
  go_wp2
  go_ret
  exact ⟨rfl, rfl⟩

theorem valid_any (w : World) (a : Option Addr) (n cap : Nat) (hn : n ≤ 9223372036854775807) : Calls Tryz.prog 42 #[.slice a n cap] w fun e w' => e = .returned (.bool (decide (1 ≤ n) && decide (n ≤ 255))) ∧ w = w' := by
  go_enter Tryz.func42, Tryz.ntmps42
  by_cases h1 : 1 ≤ n
  · have g1 : (1 : Int) ≤ (n : Int) := by omega
    by_cases h2 : n ≤ 255
    · have g2 : (n : Int) ≤ 255 := by omega
      go_wp2
      go_ret
      exact ⟨by simp [h1, h2], rfl⟩
    · have g2 : ¬ (n : Int) ≤ 255 := by omega
      go_wp2
      go_ret
      exact ⟨by simp [h1, h2], rfl⟩
  · have g1 : ¬ (1 : Int) ≤ (n : Int) := by omega
    go_wp2
    go_ret
    exact ⟨by simp [h1], rfl⟩

theorem bytesOf_run {w : World} {v : Value} {p : Bytes} (h : SeesB w v p) : (Extern.Bytes.bytesOf v).run Tryz.prog w = .ok ⟨p.toArray⟩ w := by
  obtain ⟨a, cap, rfl, h1, h2⟩ := h
  cases a with
  | none => rw [h1 rfl]; rfl
  | some ad =>
    have hl := Lib.run_loadBytesX (P := Tryz.prog) w (p.map fun x => (x.toNat : Int)) ad .empty (fun j x hj => by
      rw [List.getElem?_map, Option.map_eq_some_iff] at hj
      obtain ⟨y, hy, rfl⟩ := hj
      exact h2 ad rfl j y hy)
    rw [List.length_map] at hl
    show (Extern.Bytes.loadBytes ad p.length .empty).run Tryz.prog w = _
    rw [hl]
    congr 2
    have : Lib.bytesOf (p.map fun x => (x.toNat : Int)) = p := by
      simp [Lib.bytesOf, List.map_map, Function.comp_def]
    rw [this]
    show (#[] : Array UInt8) ++ p.toArray = _
    simp
theorem run_compare {w : World} {v1 v2 : Value} {p q : Bytes} (h1 : SeesB w v1 p) (h2 : SeesB w v2 q) :
    (Extern.BytealgCompare.compare #[v1, v2]).run Tryz.prog w = .ok (.int .i64 (Lib.compareBytes p q)) w := by
  change Sem.run Tryz.prog (do pure (goInt (Extern.BytealgCompare.cmp (← Extern.Bytes.bytesOf v1) (← Extern.Bytes.bytesOf v2)))) w = _
  simp only [Sem.run_bind, Sem.run_pure, Result.andThen, bytesOf_run h1, bytesOf_run h2]
  rw [Lib.cmp_eq]
  rfl
set_option maxRecDepth 100000 in
theorem compare_any (w : World) (v1 v2 : Value) (p q : Bytes) (h1 : SeesB w v1 p) (h2 : SeesB w v2 q) :
    Calls Tryz.prog 103 #[v1, v2] w fun e w' => e = .returned (.int .i64 (Lib.compareBytes p q)) ∧ w = w' := by
  have HR := Lib.hid (run_compare h1 h2)
  obtain ⟨a1, n1, rfl, _, _⟩ := h1
  obtain ⟨a2, n2, rfl, _, _⟩ := h2
  have c65 : Calls Tryz.prog 150 #[.slice a1 p.length n1, .slice a2 q.length n2] w fun e w' => e = .returned (.int .i64 (Lib.compareBytes p q)) ∧ w = w' := by
    go_enter Tryz.func150, Tryz.ntmps150
    go_wp2
    rw [run_callFunc_extern Tryz.func168 (by kernel_rfl) (by kernel_rfl) (by kernel_rfl) (e := Extern.BytealgCompare.compare) (by kernel_rfl), HR.out]
    simp only [Result.andThen]
    rw [Oper.upon_value]
    go_wp2
    go_ret
    exact ⟨rfl, rfl⟩
  clear HR
  go_enter Tryz.func103, Tryz.ntmps103
  go_wp2_with (go_at_call 150; refine c65.mono ?_; rintro e w' ⟨rfl, rfl⟩)
  go_ret
  exact ⟨rfl, rfl⟩

set_option maxRecDepth 100000 in
theorem bytes_any (w : World) (v : Value) (bs : Bytes) (h : SeesB w v bs) (hcap : bs.length ≤ 140737488351232) :
    Calls Tryz.prog 26 #[v] w fun e w' => ∃ g cap, e = .returned (.slice (some ⟨g, 0, none⟩) bs.length cap) ∧ w.heap.size ≤ g ∧ w'.ownsRow 0 5 1 (.slice (some ⟨g, 0, none⟩) bs.length cap) bs.length (bVs bs) ∧ Chg (fun _ => False) w w' := by
  obtain ⟨a, cap, rfl, hn, hcell⟩ := h
  obtain ⟨i1, hi', hz0, hz1, hz2⟩ := info_parts info5
  obtain ⟨B, hB⟩ : ∃ B, B = w.heap.size := ⟨_, rfl⟩
  rw [← hB]
  have HB := Lib.hid hB
  clear hB
  cases a with
  | none =>
    obtain rfl : bs = [] := hn rfl
    clear hn hcell
    go_enter Tryz.func26, Tryz.ntmps26
    go_wp2_with (at_make; refine wpList_make_own _ rfl _ _ 49 rfl 0 5 i1 (.int .u8 0) 1 Tryz.underlying49 hi' hz0 hz1 .i64 .i64 _ 0 rfl rfl (by simp) (by omega) (by unfold maxLen; omega) (Nat.zero_le _) ?_; intro w1 hown1 hg1; rw [← HB.out] at hown1 ⊢; have Hown1 := Lib.hid hown1; have Hg1 := Lib.hid hg1; clear hown1 hg1)
    go_ret
    exact ⟨B, 0, rfl, Nat.le_refl _, Hown1.out, (Chg.refl _ _).grown Hg1.out (fun k e => by cases e)⟩
  | some ad =>
    have Hc := Lib.hid (hcell ad rfl)
    clear hn hcell
    go_enter Tryz.func26, Tryz.ntmps26
    go_wp2_with (first
      | (at_make; refine wpList_make_own _ rfl _ _ 49 rfl 0 5 i1 (.int .u8 0) 1 Tryz.underlying49 hi' hz0 hz1 .i64 .i64 _ bs.length rfl rfl (by simp) (by rw [hz2]; omega) (by unfold maxLen; omega) (Nat.zero_le _) ?_; intro w1 hown1 hg1; rw [← HB.out] at hown1 ⊢; have Hown1 := Lib.hid hown1; have Hg1 := Lib.hid hg1; clear hown1 hg1)
      | (at_builtin; refine wpList_append_own_at _ rfl _ _ 49 rfl 0 5 i1 (.int .u8 0) 1 1 Tryz.underlying49 hi' hz0 hz1 hz2 rfl (by decide) (.slice (some ⟨B, 0, none⟩) 0 bs.length) 0 [] (by rfl) Hown1.out ad bs.length cap (bVs bs) rfl (by rw [bVs_length, Nat.mul_one]) (fun j u hu => by obtain ⟨x, hx, rfl⟩ := bVs_get hu; have h := Hc.out j x hx; exact Hg1.out.cell h (by simp)) oneCell_bVs (by unfold maxLen; omega) (by omega) (Nat.zero_le _) ?_; intro v' w2 hown2 hg2 hnil2 hat2))
    have hne : v' ≠ .slice none 0 0 := fun e => by have := (hnil2.1 e).1; cases this
    rw [Nat.zero_add, List.nil_append] at hown2
    obtain ⟨g, cap', rfl⟩ : ∃ g cap', v' = .slice (some ⟨g, 0, none⟩) bs.length cap' := by
      rcases hown2.2 with ⟨e, _⟩ | ⟨g, cap', _, e, _⟩
      · exact (hne e).elim
      · exact ⟨g, cap', e⟩
    have hge : B ≤ g := by
      rcases hat2 with e | e
      · simp only [Value.ownBlock, Option.some.injEq] at e
        omega
      · have := Hg1.out.size
        simp only [Value.ownBlock, Option.some.injEq] at e
        rw [HB.out]; omega
    have Hown2 := Lib.hid hown2
    have Hg2 := Lib.hid hg2
    clear hown2 hg2 hnil2 hat2 hne
    go_wp2
    go_ret
    exact ⟨g, cap', rfl, hge, Hown2.out, ((Chg.refl _ w).grown Hg1.out (fun k e => by cases e)).grown Hg2.out (fun k e => (Or.inr (by simp only [Value.ownBlock, Option.some.injEq] at e; rw [← HB.out]; omega)))⟩
end Go.Proofs.YteejkkidnohcfaaGreatDoor
