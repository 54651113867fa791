/- The document's pool: rises. -/
import Derived.Test.YtipclbibomemjaaV1
namespace Go.Proofs.Ytipclbibomemjaa
open Go Go.RowKit Go.Maps

set_option maxRecDepth 100000 in
set_option maxHeartbeats 1000000 in
theorem rises_any (w : World) (v : Value) (zs : List Int) (h : SeesI w v zs) (count : Int) (hl : zs.length ≤ 1000000) :
    Calls Try.prog 42 #[v, .int .i64 count] w fun e w' => e = .returned (.bool (riseK count 1 zs)) ∧ Chg (fun _ => False) w w' := by
  have HS := Lib.hid h
  obtain ⟨a, c, rfl, hn, hc⟩ := h
  have Hn := Lib.hid hn
  clear hn hc
  go_enter Try.func42, Try.ntmps42
  go_wp2_with fail
  go_loopg [5] zs.length (fun gm iv wr => ∃ (k : Nat) (last : Int), k ≤ zs.length ∧ gm = zs.length - k ∧ iv = .int .i64 k ∧ Chg (fun _ => False) w wr ∧ 1 ≤ last ∧ (k = 0 ∨ zs[k - 1]? = some last) ∧ riseK count last (zs.drop k) = riseK count 1 zs)
  case atStart => exact ⟨0, 1, by omega, rfl, rfl, Chg.refl _ _, by omega, .inl rfl, rfl⟩
  case round =>
    obtain ⟨k, last, hk, hg, rfl, hch, hl1, hl2, hr⟩ := hrel
    have Hg := Lib.hid hg
    have Hr := Lib.hid hr
    have HCh := Lib.hid hch
    have HL2 := Lib.hid hl2
    clear hg hr hl2
    by_cases hlt : k < zs.length
    · obtain ⟨x, hx⟩ : ∃ x, zs[k]? = some x := ⟨_, List.getElem?_eq_getElem hlt⟩
      have HX := Lib.hid hx
      have HD := Lib.hid (drop_cons hx)
      obtain ⟨ad, rfl⟩ : ∃ ad, a = some ad := by
        cases a with
        | none => have := Hn.out rfl; subst this; simp at hlt
        | some ad => exact ⟨ad, rfl⟩
      have hcell : ∀ (j : Nat) (y : Int), zs[j]? = some y → wr.cell? (ad.add j) = some (.int .i64 y) := by
        obtain ⟨a4, c4, e4, _, h4⟩ := HS.out.chg0 hch
        cases e4
        exact h4 ad rfl
      have cx := hcell k x hx
      have HCell := Lib.hid hcell
      have hki : (k : Int) < (zs.length : Int) := by omega
      have hk0 : (0 : Int) ≤ (k : Int) := by omega
      clear hx hch hcell
      by_cases t1 : x < 2
      · have HF : Hid (riseK count 1 zs = false) := Lib.hid (by rw [← Hr.out, HD.out]; unfold riseK; rw [if_pos (.inl (by omega))])
        go_wp2_with fail
        go_quiet (fail)
        go_wp2_with fail
        go_ret
        exact ⟨by rw [HF.out]; rfl, HCh.out.drewN _⟩
      · by_cases t2 : count ≤ x
        · have HF : Hid (riseK count 1 zs = false) := Lib.hid (by rw [← Hr.out, HD.out]; unfold riseK; rw [if_pos (.inr t2)])
          have b1 : decide (x < 2) = false := decide_eq_false t1
          have b2 : decide (count ≤ x) = true := decide_eq_true t2
          clear t1 t2
          go_wp2_with fail
          go_quiet (fail)
          go_wp2_with fail
          go_ret
          exact ⟨by rw [HF.out]; rfl, HCh.out.drewN _⟩
        · by_cases t3 : k = 0
          · have HF : Hid (riseK count x (zs.drop (k + 1)) = riseK count 1 zs) := Lib.hid (by
              have h0 : zs.drop k = zs := by rw [t3]; rfl
              have e : riseK count 1 (x :: zs.drop (k + 1)) = riseK count x (zs.drop (k + 1)) := by conv => lhs; unfold riseK; rw [if_neg (by omega)]
              rw [← e, ← HD.out, h0])
            have b4 : decide (0 < k) = false := decide_eq_false (by omega)
            have b1 : decide (x < 2) = false := decide_eq_false t1
            have b2 : decide (count ≤ x) = false := decide_eq_false t2
            have hx1 : 1 ≤ x := by omega
            clear t3 t1 t2
            go_wp2_with fail
            go_quiet (fail)
            go_wp2_with fail
            go_roundg (zs.length - (k + 1))
            case measure => have := Hg.out; omega
            case rel => exact ⟨k + 1, x, by omega, rfl, by go_num, HCh.out.drewN _, by omega, .inr (by rw [Nat.add_sub_cancel]; exact HX.out), HF.out⟩
          · obtain ⟨m, hm⟩ : ∃ m, k = m + 1 := ⟨k - 1, by omega⟩
            have hlast : zs[m]? = some last := by
              have := HL2.out.resolve_left t3
              rw [hm, Nat.add_sub_cancel] at this; exact this
            have cm := HCell.out m last hlast
            have hw1 : IntKind.i64.wrap ((k : Int) - 1) = (m : Int) := by rw [wrapI (by omega) (by omega)]; omega
            have hki' : (m : Int) < (zs.length : Int) := by omega
            have hk0' : (0 : Int) ≤ (m : Int) := by omega
            have b4 : decide (0 < k) = true := decide_eq_true (by omega)
            have b1 : decide (x < 2) = false := decide_eq_false t1
            have b2 : decide (count ≤ x) = false := decide_eq_false t2
            have hx1 : 1 ≤ x := by omega
            clear hlast hm t3 t1 t2
            by_cases t5 : x ≤ last
            · have b5 : decide (x ≤ last) = true := decide_eq_true t5
              have HF : Hid (riseK count 1 zs = false) := Lib.hid (by rw [← Hr.out, HD.out]; unfold riseK; rw [if_pos (.inl t5)])
              clear t5
              go_wp2_with fail
              go_quiet (fail)
              go_wp2_with fail
              go_ret
              exact ⟨by rw [HF.out]; rfl, HCh.out.drewN _⟩
            · have HF : Hid (riseK count x (zs.drop (k + 1)) = riseK count 1 zs) := Lib.hid (by
                rw [← Hr.out, HD.out]; conv => rhs; unfold riseK; rw [if_neg (by have := of_decide_eq_false b2; omega)])
              have b5 : decide (x ≤ last) = false := decide_eq_false t5
              clear t5
              go_wp2_with fail
              go_quiet (fail)
              go_wp2_with fail
              go_roundg (zs.length - (k + 1))
              case measure => have := Hg.out; omega
              case rel => exact ⟨k + 1, x, by omega, rfl, by go_num, HCh.out.drewN _, by omega, .inr (by rw [Nat.add_sub_cancel]; exact HX.out), HF.out⟩
    · have HF : Hid (riseK count 1 zs = true) := Lib.hid (by rw [← Hr.out, List.drop_eq_nil_of_le (by omega)]; rfl)
      clear hch
      go_wp2_with fail
      go_ret
      exact ⟨by rw [HF.out]; rfl, HCh.out⟩
end Go.Proofs.Ytipclbibomemjaa
