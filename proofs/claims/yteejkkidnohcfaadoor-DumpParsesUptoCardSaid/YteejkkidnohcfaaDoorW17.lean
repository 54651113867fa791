/- Walk: may. -/
import Derived.Test.YteejkkidnohcfaaDoorW9
namespace Go.Proofs.YteejkkidnohcfaaDoor
open Go Go.RowKit Go.Maps

set_option maxRecDepth 100000 in
set_option maxHeartbeats 4000000 in
theorem mayAll_any (w : World) (v : Value) (ps : List PairB) (h : SeesP w v ps) (hs : SmallP ps) :
    Calls Tryd.prog 25 #[v] w fun e w' => e = .returned (.bool (decide (faultOf ps none = 0))) ∧ Chg (fun _ => False) w w' := by
  have H1 := Lib.hid h
  obtain ⟨a, c, rfl, hn, hc⟩ := h
  have Hn := Lib.hid hn
  have hb := hs.len
  clear hn hc hs
  go_enter Tryd.func25, Tryd.ntmps25
  go_wp2_with fail
  go_loopg [3] ps.length (fun gm iv wr => ∃ (k : Nat), k ≤ ps.length ∧ gm = ps.length - k ∧ iv = .int .i64 k ∧ Chg (fun _ => False) w wr ∧ faultOf ps none = faultOf (ps.drop k) (lastK ps k))
  case atStart => exact ⟨0, by omega, rfl, rfl, Chg.refl _ _, rfl⟩
  case round =>
    obtain ⟨k, hk, hg, rfl, hch, hr⟩ := hrel
    have HCh := Lib.hid hch
    have Hg := Lib.hid hg
    have Hr := Lib.hid hr
    clear hg hr hch
    by_cases hlt : k < ps.length
    · obtain ⟨p, hp⟩ : ∃ p, ps[k]? = some p := ⟨_, List.getElem?_eq_getElem hlt⟩
      cases a with
      | none => have := Hn.out rfl; subst this; simp at hlt
      | some ad =>
        obtain ⟨_, _, e1, _, f1⟩ := H1.out.chg0 HCh.out
        cases e1
        obtain ⟨k1, u1, ck1, cu1, s1, t1⟩ := f1 ad rfl k p hp
        have cu1' : wr.cell? ⟨(ad.add (k * 2)).block, (ad.add (k * 2)).off + 1, none⟩ = some u1 := by
          have h3 : wr.cell? ((ad.add (k * 2)).add 1) = some u1 := by rw [add_add]; exact cu1
          exact h3
        have HF := Lib.hid (fault_drop hp (lastK ps k))
        have S1 := Lib.hid s1
        have S1d := Lib.hid (s1.chg0 (Chg.refl _ wr))
        have HNk : Hid (lastK ps (k + 1) = some p.1) := Lib.hid (by unfold lastK; rw [if_neg (by omega), Nat.add_sub_cancel, hp]; rfl)
        obtain ⟨x1, x2, rfl, _, _⟩ := s1
        obtain ⟨x3, x4, rfl, _, _⟩ := t1
        have hki : (k : Int) < (ps.length : Int) := by omega
        have hk0 : (0 : Int) ≤ (k : Int) := by omega
        obtain ⟨lst, hlst⟩ : ∃ lst, lst = lastK ps k := ⟨_, rfl⟩
        have HLs := Lib.hid hlst
        rw [← hlst] at HF Hr
        by_cases hbad : p.1.length < 1 ∨ 255 < p.1.length ∨ 262144 < p.2.length
        · have HM : Hid (decide (faultOf ps none = 0) = false) := Lib.hid (by
            rw [decide_eq_false_iff_not, Hr.out, HF.out]
            have : mayB p.1 p.2 lst = 41 := by unfold mayB; rw [if_pos hbad]
            rw [this, if_neg (by decide)]; decide)
          by_cases b1 : p.1.length < 1
          · have b1i : decide ((p.1.length : Int) < 1) = true := by simp; omega
            clear hp cu1 f1 hbad
            go_wp2_with fail
            go_quiet (fail)
            go_wp2_with fail
            go_ret
            exact ⟨by rw [HM.out]; rfl, HCh.out.drewN _⟩
          · have b1i : decide ((p.1.length : Int) < 1) = false := by simp; omega
            by_cases b2 : 255 < p.1.length
            · have b2i : decide ((255 : Int) < (p.1.length : Int)) = true := by simp; omega
              clear hp cu1 f1 hbad
              go_wp2_with fail
              go_quiet (fail)
              go_wp2_with fail
              go_ret
              exact ⟨by rw [HM.out]; rfl, HCh.out.drewN _⟩
            · have b2i : decide ((255 : Int) < (p.1.length : Int)) = false := by simp; omega
              have b3i : decide ((262144 : Int) < (p.2.length : Int)) = true := by simp; omega
              clear hp cu1 f1 hbad
              go_wp2_with fail
              go_quiet (fail)
              go_wp2_with fail
              go_ret
              exact ⟨by rw [HM.out]; rfl, HCh.out.drewN _⟩
        · have b1i : decide ((p.1.length : Int) < 1) = false := by simp; omega
          have b2i : decide ((255 : Int) < (p.1.length : Int)) = false := by simp; omega
          have b3i : decide ((262144 : Int) < (p.2.length : Int)) = false := by simp; omega
          by_cases h0 : k = 0
          · have b4i : decide (0 < k) = false := by simp; omega
            have HM : Hid (faultOf ps none = faultOf (ps.drop (k + 1)) (lastK ps (k + 1))) := Lib.hid (by
              rw [Hr.out, HF.out, HNk.out]
              have : mayB p.1 p.2 lst = 0 := by rw [HLs.out, h0]; unfold mayB lastK; rw [if_neg hbad]; simp
              rw [if_pos this])
            clear hp cu1 f1 hbad h0
            go_wp2_with fail
            go_quiet (fail)
            go_wp2_with fail
            go_roundg (ps.length - (k + 1))
            case measure => have := Hg.out; omega
            case rel => exact ⟨k + 1, by omega, rfl, by go_num, HCh.out.drewN _, HM.out⟩
          · obtain ⟨m, hm⟩ : ∃ m, m = k - 1 := ⟨_, rfl⟩
            obtain ⟨q, hq⟩ : ∃ q, ps[m]? = some q := ⟨_, List.getElem?_eq_getElem (by omega)⟩
            obtain ⟨k2, u2, ck2, _, s2, _⟩ := f1 ad rfl m q hq
            have S2d := Lib.hid (s2.chg0 (Chg.refl _ wr))
            obtain ⟨x5, x6, rfl, _, _⟩ := s2
            have HQ : Hid (lst = some q.1) := Lib.hid (by rw [HLs.out]; unfold lastK; rw [if_neg h0, ← hm, hq]; rfl)
            have b4i : decide (0 < k) = true := by simp; omega
            have b5 : IntKind.i64.wrap ((k : Int) - 1) = (m : Int) := by
              rw [IntKind.wrap_i64]; omega
            have b7 : (m : Int) < (ps.length : Int) := by omega
            clear h0 hm
            obtain ⟨bb, hbb⟩ : ∃ bb, bb = Op.bytesLess q.1 p.1 := ⟨_, rfl⟩
            have HBB := Lib.hid hbb
            clear hp cu1 f1 hq hbb
            cases bb with
            | true =>
              have HM : Hid (faultOf ps none = faultOf (ps.drop (k + 1)) (lastK ps (k + 1))) := Lib.hid (by
                rw [Hr.out, HF.out, HNk.out, HQ.out]
                have : mayB p.1 p.2 (some q.1) = 0 := by unfold mayB; rw [if_neg hbad]; simp [← HBB.out]
                rw [if_pos this])
              have HL : Hid (∀ n, Calls Tryd.prog 40 #[.slice x5 q.1.length x6, .slice x1 p.1.length x2] (wr.drewN n) fun e w' => e = .returned (.bool true) ∧ w' = wr.drewN n) := Lib.hid (fun n => by have := less_any (wr.drewN n) _ _ q.1 p.1 (S2d.out.chg0 ((Chg.refl _ wr).drewN n)) (S1d.out.chg0 ((Chg.refl _ wr).drewN n)); rw [← HBB.out] at this; exact this.mono fun _ _ h => ⟨h.1, h.2.symm⟩)
              go_wp2_with fail
              go_quiet ((go_at_call 40; exact Calls.quiet_of_same (HL.out _)))
              go_wp2_with fail
              go_roundg (ps.length - (k + 1))
              case measure => have := Hg.out; omega
              case rel => exact ⟨k + 1, by omega, rfl, by go_num, HCh.out.drewN _, HM.out⟩
            | false =>
              have HM : Hid (decide (faultOf ps none = 0) = false) := Lib.hid (by
                rw [decide_eq_false_iff_not, Hr.out, HF.out, HQ.out]
                have : mayB p.1 p.2 (some q.1) = 30 := by unfold mayB; rw [if_neg hbad]; simp [← HBB.out]
                rw [this, if_neg (by decide)]; decide)
              have HL : Hid (∀ n, Calls Tryd.prog 40 #[.slice x5 q.1.length x6, .slice x1 p.1.length x2] (wr.drewN n) fun e w' => e = .returned (.bool false) ∧ w' = wr.drewN n) := Lib.hid (fun n => by have := less_any (wr.drewN n) _ _ q.1 p.1 (S2d.out.chg0 ((Chg.refl _ wr).drewN n)) (S1d.out.chg0 ((Chg.refl _ wr).drewN n)); rw [← HBB.out] at this; exact this.mono fun _ _ h => ⟨h.1, h.2.symm⟩)
              go_wp2_with fail
              go_quiet ((go_at_call 40; exact Calls.quiet_of_same (HL.out _)))
              go_wp2_with fail
              go_ret
              exact ⟨by rw [HM.out]; rfl, HCh.out.drewN _⟩
    · have HM : Hid (decide (faultOf ps none = 0) = true) := Lib.hid (by rw [decide_eq_true_eq, Hr.out, List.drop_eq_nil_of_le (by omega)]; rfl)
      go_wp2_with fail
      go_ret
      exact ⟨by rw [HM.out]; rfl, HCh.out⟩
end Go.Proofs.YteejkkidnohcfaaDoor
