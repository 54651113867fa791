/- Walks: the document's decimal and fault. -/
import Derived.Test.YteejkkidnohcfaaGreatDoorW9
namespace Go.Proofs.YteejkkidnohcfaaGreatDoor
open Go Go.RowKit Go.Maps

theorem digit_cut (n : Nat) (h : n < 10) : (ByteArray.mk #[48, 49, 50, 51, 52, 53, 54, 55, 56, 57, 97, 98, 99, 100, 101, 102]).extract n (n + 1) = ⟨#[decd n]⟩ := by
  have : ∀ m : Fin 10, (ByteArray.mk #[48, 49, 50, 51, 52, 53, 54, 55, 56, 57, 97, 98, 99, 100, 101, 102]).extract m.val (m.val + 1) = ⟨#[decd m.val]⟩ := by decide +kernel
  exact this ⟨n, h⟩
set_option maxRecDepth 100000 in
theorem digit_run (n : Nat) (h : n < 10) (w : World) : (Instr.slice 9 (.string ⟨#[48, 49, 50, 51, 52, 53, 54, 55, 56, 57, 97, 98, 99, 100, 101, 102]⟩) (some (.int .i64 (n : Int))) (some (.int .i64 ((n : Int) + 1))) none).run Tryz.prog w = .ok (.string ⟨#[decd n]⟩) w := by
  have hsz : (ByteArray.mk #[48, 49, 50, 51, 52, 53, 54, 55, 56, 57, 97, 98, 99, 100, 101, 102]).size = 16 := by kernel_rfl
  rw [run_slice_string w 9 _ .i64 .i64 (n : Int) ((n : Int) + 1) Tryz.underlying9 (by omega) (by omega) (by rw [hsz]; omega)]
  have e1 : ((n : Int)).toNat = n := by omega
  have e2 : ((n : Int) + 1).toNat = n + 1 := by omega
  rw [e1, e2, digit_cut n h]
theorem decB_join (n : Nat) (h : ¬ n < 10) : (⟨(decB (n / 10)).toArray⟩ : ByteArray) ++ ⟨#[decd (n % 10)]⟩ = ⟨(decB n).toArray⟩ := by
  conv => rhs; rw [decB, if_neg h]
  apply ByteArray.ext
  rw [ByteArray.data_append]
  simp

set_option maxRecDepth 100000 in
set_option maxHeartbeats 4000000 in
theorem decimal_any : ∀ (k n : Nat), n < 10 ^ (k + 1) → n ≤ 2147483647 → ∀ w : World, Calls Tryz.prog 17 #[.int .i64 (n : Int)] w fun e w' => e = .returned (.string ⟨(decB n).toArray⟩) ∧ ∃ m, w' = w.drewN m := by
  intro k
  induction k with
  | zero =>
    intro n hn hm w
    have h10 : n < 10 := by simpa using hn
    have hi : (n : Int) < 10 := by omega
    have HR : Hid (decB n = [decd n]) := Lib.hid (by rw [decB, if_pos h10])
    have hk := digit_run n h10 w
    clear hn h10 hm
    go_enter Tryz.func17, Tryz.ntmps17
    go_wp2_with (fail)
    go_ret
    exact ⟨by rw [HR.out]; rfl, 0, rfl⟩
  | succ k ih =>
    intro n hn hm w
    by_cases h10 : n < 10
    · have hi : (n : Int) < 10 := by omega
      have HR : Hid (decB n = [decd n]) := Lib.hid (by rw [decB, if_pos h10])
      have hk := digit_run n h10 w
      clear hn h10 hm ih
      go_enter Tryz.func17, Tryz.ntmps17
      go_wp2_with (fail)
      go_ret
      exact ⟨by rw [HR.out]; rfl, 0, rfl⟩
    · have hi : ¬ (n : Int) < 10 := by omega
      have HJ := Lib.hid (decB_join n h10)
      have hlt : n / 10 < 10 ^ (k + 1) := by exact Nat.div_lt_of_lt_mul (by rw [Nat.pow_succ, Nat.mul_comm] at hn; exact hn)
      have HC : Hid (∀ w : World, Calls Tryz.prog 17 #[.int .i64 ((n / 10 : Nat) : Int)] w fun e w' => e = .returned (.string ⟨(decB (n / 10)).toArray⟩) ∧ ∃ m, w' = w.drewN m) := Lib.hid (ih (n / 10) hlt (by omega))
      obtain ⟨r, hr⟩ : ∃ r, r = n % 10 := ⟨_, rfl⟩
      obtain ⟨q, hq⟩ : ∃ q, q = n / 10 := ⟨_, rfl⟩
      have hk : ∀ wx : World, (Instr.slice 9 (.string ⟨#[48, 49, 50, 51, 52, 53, 54, 55, 56, 57, 97, 98, 99, 100, 101, 102]⟩) (some (.int .i64 (r : Int))) (some (.int .i64 ((r : Int) + 1))) none).run Tryz.prog wx = .ok (.string ⟨#[decd r]⟩) wx := fun wx => digit_run r (by omega) wx
      have t1 : (n : Int).tdiv 10 = (q : Int) := by rw [Int.tdiv_eq_ediv_of_nonneg (by omega), hq]; omega
      have t2 : (n : Int).tmod 10 = (r : Int) := by rw [Int.tmod_eq_emod_of_nonneg (by omega), hr]; omega
      have t0 : IntKind.i64.wrap (q : Int) = (q : Int) := by rw [IntKind.wrap_i64]; omega
      have t3 : IntKind.i64.wrap ((r : Int) + 1) = (r : Int) + 1 := by rw [IntKind.wrap_i64]; omega
      rw [← hq] at HC HJ
      rw [← hr] at HJ
      have hq9 : (decB q).length ≤ 9 + 1 := decB_length 9 q (by omega)
      obtain ⟨D, hD⟩ : ∃ D : ByteArray, D = ⟨(decB q).toArray⟩ := ⟨_, rfl⟩
      obtain ⟨E, hE⟩ : ∃ E : ByteArray, E = ⟨#[decd r]⟩ := ⟨_, rfl⟩
      have hDs : D.size ≤ 10 := by rw [hD]; show (decB q).toArray.size ≤ 10; simpa using hq9
      have hEs : E.size = 1 := by rw [hE]; rfl
      have t6 : ¬ 9223372036854775807 < D.size + E.size := by omega
      rw [← hD] at HC HJ
      rw [← hE] at HJ hk
      clear ih hn hlt h10 hr hq hm hD hE hDs hEs hq9
      go_enter Tryz.func17, Tryz.ntmps17
      go_wp2_with (fail)
      go_quiet ((go_at_call 17; exact Calls.quiet_of (HC.out _)))
      go_wp2_with (fail)
      go_ret
      exact ⟨by rw [← HJ.out]; rfl, _, rfl⟩

set_option maxRecDepth 100000 in
set_option maxHeartbeats 4000000 in
/-- The document's fault of the i-th pair. -/
theorem fault_any (w : World) (v : Value) (ps : List PairB) (h : SeesP w v ps) (hs : ps.length ≤ 16777216) (k : Nat) (p : PairB) (hp : ps[k]? = some p) :
    Calls Tryz.prog 18 #[v, .int .i64 (k : Int)] w fun e w' => e = .returned (.int .i64 (mayB p.1 p.2 (lastK ps k))) ∧ Chg (fun _ => False) w w' := by
  obtain ⟨a, c, rfl, hn, hc⟩ := h
  have hlt : k < ps.length := (List.getElem?_eq_some_iff.1 hp).1
  cases a with
  | none => have := hn rfl; subst this; simp at hp
  | some ad =>
    obtain ⟨k1, u1, ck1, cu1, s1, t1⟩ := hc ad rfl k p hp
    have cu1' : w.cell? ⟨(ad.add (k * 2)).block, (ad.add (k * 2)).off + 1, none⟩ = some u1 := by
      have h3 : w.cell? ((ad.add (k * 2)).add 1) = some u1 := by rw [add_add]; exact cu1
      exact h3
    have S1 := Lib.hid s1
    obtain ⟨x1, x2, rfl, _, _⟩ := s1
    obtain ⟨x3, x4, rfl, _, _⟩ := t1
    have hki : (k : Int) < (ps.length : Int) := by omega
    have hk0 : (0 : Int) ≤ (k : Int) := by omega
    obtain ⟨lst, hlst⟩ : ∃ lst, lst = lastK ps k := ⟨_, rfl⟩
    have HLs := Lib.hid hlst
    rw [← hlst]
    by_cases hbad : p.1.length < 1 ∨ 255 < p.1.length ∨ 262144 < p.2.length
    · have HM : Hid (mayB p.1 p.2 lst = 41) := Lib.hid (by unfold mayB; rw [if_pos hbad])
      by_cases b1 : p.1.length < 1
      · have b1i : (p.1.length : Int) < 1 := by omega
        clear hn hc hp cu1 hbad hlst
        go_enter Tryz.func18, Tryz.ntmps18
        go_wp2_with fail
        go_ret
        exact ⟨by rw [HM.out]; rfl, Chg.refl _ _⟩
      · have b1i : ¬ (p.1.length : Int) < 1 := by omega
        by_cases b2 : 255 < p.1.length
        · have b2i : (255 : Int) < (p.1.length : Int) := by omega
          clear hn hc hp cu1 hbad hlst
          go_enter Tryz.func18, Tryz.ntmps18
          go_wp2_with fail
          go_ret
          exact ⟨by rw [HM.out]; rfl, Chg.refl _ _⟩
        · have b2i : ¬ (255 : Int) < (p.1.length : Int) := by omega
          have b3i : (262144 : Int) < (p.2.length : Int) := by omega
          clear hn hc hp cu1 hbad hlst
          go_enter Tryz.func18, Tryz.ntmps18
          go_wp2_with fail
          go_ret
          exact ⟨by rw [HM.out]; rfl, Chg.refl _ _⟩
    · have b1i : ¬ (p.1.length : Int) < 1 := by omega
      have b2i : ¬ (255 : Int) < (p.1.length : Int) := by omega
      have b3i : ¬ (262144 : Int) < (p.2.length : Int) := by omega
      by_cases h0 : k = 0
      · have b4i : decide (0 < k) = false := by simp; omega
        have HM : Hid (mayB p.1 p.2 lst = 0) := Lib.hid (by rw [hlst, h0]; unfold mayB lastK; rw [if_neg hbad]; simp)
        clear hn hc hp cu1 hbad hlst h0
        go_enter Tryz.func18, Tryz.ntmps18
        go_wp2_with fail
        go_quiet (fail)
        go_wp2_with fail
        go_ret
        exact ⟨by rw [HM.out]; rfl, (Chg.refl _ _).drewN _⟩
      · obtain ⟨m, hm⟩ : ∃ m, m = k - 1 := ⟨_, rfl⟩
        obtain ⟨q, hq⟩ : ∃ q, ps[m]? = some q := ⟨_, List.getElem?_eq_getElem (by omega)⟩
        obtain ⟨k2, u2, ck2, _, s2, _⟩ := hc ad rfl m q hq
        have S2 := Lib.hid s2
        obtain ⟨x5, x6, rfl, _, _⟩ := s2
        have b4i : decide (0 < k) = true := by simp; omega
        have b5 : IntKind.i64.wrap ((k : Int) - 1) = (m : Int) := by rw [IntKind.wrap_i64]; omega
        have b7 : (m : Int) < (ps.length : Int) := by omega
        have HQ : lst = some q.1 := by rw [hlst]; unfold lastK; rw [if_neg h0, ← hm, hq]; rfl
        obtain ⟨bb, hbb⟩ : ∃ bb, bb = Op.bytesLess q.1 p.1 := ⟨_, rfl⟩
        have HM : Hid (mayB p.1 p.2 lst = if bb = true then 0 else 30) := Lib.hid (by rw [HQ, hbb]; unfold mayB; rw [if_neg hbad])
        have HL : Hid (∀ n, Calls Tryz.prog 37 #[.slice x5 q.1.length x6, .slice x1 p.1.length x2] (w.drewN n) fun e w' => e = .returned (.bool bb) ∧ w' = w.drewN n) := Lib.hid (fun n => by have := less_any (w.drewN n) _ _ q.1 p.1 (S2.out.chg0 ((Chg.refl _ w).drewN n)) (S1.out.chg0 ((Chg.refl _ w).drewN n)); rw [← hbb] at this; exact this.mono fun _ _ h => ⟨h.1, h.2.symm⟩)
        clear hn hc hp cu1 hbad hlst h0 hm hq hbb HQ
        cases bb with
        | true =>
          go_enter Tryz.func18, Tryz.ntmps18
          go_wp2_with fail
          go_quiet ((go_at_call 37; exact Calls.quiet_of_same (HL.out _)))
          go_wp2_with fail
          go_ret
          exact ⟨by rw [HM.out]; rfl, (Chg.refl _ _).drewN _⟩
        | false =>
          go_enter Tryz.func18, Tryz.ntmps18
          go_wp2_with fail
          go_quiet ((go_at_call 37; exact Calls.quiet_of_same (HL.out _)))
          go_wp2_with fail
          go_ret
          exact ⟨by rw [HM.out]; rfl, (Chg.refl _ _).drewN _⟩
end Go.Proofs.YteejkkidnohcfaaGreatDoor
