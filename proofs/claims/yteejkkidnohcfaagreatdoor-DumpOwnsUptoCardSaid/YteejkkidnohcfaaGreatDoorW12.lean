/- Walks: SamePair, SamePairs. -/
import Derived.Test.YteejkkidnohcfaaGreatDoorW9
import Derived.StillTailTactics
namespace Go.Proofs.YteejkkidnohcfaaGreatDoor
open Go Go.RowKit Go.Maps

set_option maxRecDepth 100000 in
set_option maxHeartbeats 4000000 in
theorem samePair_any (w : World) (k1 u1 k2 u2 : Value) (p q : PairB) (h1 : SeesB w k1 p.1) (h2 : SeesB w u1 p.2) (h3 : SeesB w k2 q.1) (h4 : SeesB w u2 q.2) :
    Calls Tryz.prog 23 #[.agg #[k1, u1], .agg #[k2, u2]] w fun e w' => e = .returned (.bool (decide (p = q))) ∧ Chg (fun _ => False) w w' := by
  have H1 := Lib.hid h1
  have H2 := Lib.hid h2
  have H3 := Lib.hid h3
  have H4 := Lib.hid h4
  obtain ⟨a1, c1, rfl, _, _⟩ := h1
  obtain ⟨a2, c2, rfl, _, _⟩ := h2
  obtain ⟨a3, c3, rfl, _, _⟩ := h3
  obtain ⟨a4, c4, rfl, _, _⟩ := h4
  have CA : Hid (Chg (fun _ => False) w ((w.alloc (.cells #[.slice a1 p.1.length c1, .slice a2 p.2.length c2] 54)).alloc (.cells #[.slice a3 q.1.length c3, .slice a4 q.2.length c4] 54))) := Lib.hid (((Chg.refl _ w).alloc _).alloc _)
  obtain ⟨b1, hb1⟩ : ∃ b1, b1 = decide (p.1 = q.1) := ⟨_, rfl⟩
  obtain ⟨b2, hb2⟩ : ∃ b2, b2 = decide (p.2 = q.2) := ⟨_, rfl⟩
  have HR : Hid (decide (p = q) = (b1 && b2)) := Lib.hid (by rw [hb1, hb2, Bool.eq_iff_iff]; simp [Prod.ext_iff])
  have HB1 := Lib.hid hb1
  have HB2 := Lib.hid hb2
  clear hb1 hb2
  go_enter Tryz.func23, Tryz.ntmps23
  go_wp2_with (go_at_call 43; refine (same_any _ _ _ p.1 q.1 (H1.out.chg0 CA.out) (H3.out.chg0 CA.out)).mono ?_; rintro e w' ⟨rfl, rfl⟩; rw [← HB1.out])
  refine (same_any _ _ _ p.2 q.2 (H2.out.chg0 CA.out) (H4.out.chg0 CA.out)).mono ?_
  rintro e w' ⟨rfl, rfl⟩
  rw [← HB2.out]
  cases b1 with
  | false =>
    go_wp2
    go_ret
    exact ⟨by rw [HR.out]; rfl, CA.out⟩
  | true =>
    go_wp2
    go_ret
    exact ⟨by rw [HR.out]; rfl, CA.out⟩

set_option maxRecDepth 100000 in
set_option maxHeartbeats 4000000 in
theorem samePairs_any (w : World) (v1 v2 : Value) (ps qs : List PairB) (h1 : SeesP w v1 ps) (h2 : SeesP w v2 qs) (hl : ps.length ≤ 9223372036854775807) :
    Calls Tryz.prog 8 #[v1, v2] w fun e w' => e = .returned (.bool (decide (ps = qs))) ∧ Chg (fun _ => False) w w' := by
  have H1 := Lib.hid h1
  have H2 := Lib.hid h2
  obtain ⟨a, c, rfl, hn, hc⟩ := h1
  obtain ⟨b, d, rfl, hm, hd⟩ := h2
  have Hn := Lib.hid hn
  have Hm := Lib.hid hm
  clear hn hm hc hd
  by_cases hlen : ps.length = qs.length
  · have Hl := Lib.hid hlen
    have hb : ((ps.length : Int) != (qs.length : Int)) = false := by rw [bne_eq_false_iff_eq]; omega
    clear hlen
    go_enter Tryz.func8, Tryz.ntmps8
    go_wp2_with fail
    go_loopg [5, 6] ps.length (fun gm iv _ wr => ∃ (k : Nat), k ≤ ps.length ∧ gm = ps.length - k ∧ iv = .int .i64 k ∧ Chg (fun _ => False) w wr ∧ (ps = qs ↔ ps.drop k = qs.drop k))
    case atStart => exact ⟨0, by omega, rfl, rfl, Chg.refl _ _, by simp⟩
    case round =>
      obtain ⟨k, hk, hg, rfl, hch, hr⟩ := hrel
      have HCh := Lib.hid hch
      have Hg := Lib.hid hg
      have Hr := Lib.hid hr
      clear hg hr hch
      by_cases hlt : k < ps.length
      · obtain ⟨p, hp⟩ : ∃ p, ps[k]? = some p := ⟨_, List.getElem?_eq_getElem hlt⟩
        obtain ⟨q, hq⟩ : ∃ q, qs[k]? = some q := ⟨_, List.getElem?_eq_getElem (by have := Hl.out; omega)⟩
        have hdp : ps.drop k = p :: ps.drop (k + 1) := by
          obtain ⟨h3, e⟩ := List.getElem?_eq_some_iff.1 hp
          rw [List.drop_eq_getElem_cons h3, e]
        have hdq : qs.drop k = q :: qs.drop (k + 1) := by
          obtain ⟨h3, e⟩ := List.getElem?_eq_some_iff.1 hq
          rw [List.drop_eq_getElem_cons h3, e]
        have HDp := Lib.hid hdp
        have HDq := Lib.hid hdq
        clear hdp hdq
        cases a with
        | none => have := Hn.out rfl; subst this; simp at hlt
        | some ad =>
          cases b with
          | none => have := Hm.out rfl; subst this; simp at hq
          | some bd =>
            obtain ⟨_, _, e1, _, f1⟩ := H1.out.chg0 HCh.out
            cases e1
            obtain ⟨_, _, e2, _, f2⟩ := H2.out.chg0 HCh.out
            cases e2
            obtain ⟨k1, u1, ck1, cu1, s1, t1⟩ := f1 ad rfl k p hp
            obtain ⟨k2, u2, ck2, cu2, s2, t2⟩ := f2 bd rfl k q hq
            have cu1' : wr.cell? ⟨(ad.add (k * 2)).block, (ad.add (k * 2)).off + 1, none⟩ = some u1 := by
              have h3 : wr.cell? ((ad.add (k * 2)).add 1) = some u1 := by rw [add_add]; exact cu1
              exact h3
            have cu2' : wr.cell? ⟨(bd.add (k * 2)).block, (bd.add (k * 2)).off + 1, none⟩ = some u2 := by
              have h3 : wr.cell? ((bd.add (k * 2)).add 1) = some u2 := by rw [add_add]; exact cu2
              exact h3
            have S1 := Lib.hid (s1.chg0 (Chg.refl _ wr).drew)
            have T1 := Lib.hid (t1.chg0 (Chg.refl _ wr).drew)
            have S2 := Lib.hid (s2.chg0 (Chg.refl _ wr).drew)
            have T2 := Lib.hid (t2.chg0 (Chg.refl _ wr).drew)
            obtain ⟨x1, x2, rfl, _, _⟩ := s1
            obtain ⟨x3, x4, rfl, _, _⟩ := t1
            obtain ⟨x5, x6, rfl, _, _⟩ := s2
            obtain ⟨x7, x8, rfl, _, _⟩ := t2
            have hki : (k : Int) < (ps.length : Int) := by omega
            have hkj : (k : Int) < (qs.length : Int) := by have := Hl.out; omega
            have hk0 : (0 : Int) ≤ (k : Int) := by omega
            obtain ⟨bb, hbb⟩ : ∃ bb, bb = decide (p = q) := ⟨_, rfl⟩
            have HBB := Lib.hid hbb
            clear hp hq cu1 cu2 f1 f2 hbb
            cases bb with
            | true =>
              have HE : Hid (p = q) := Lib.hid (by have := HBB.out; simpa using this.symm)
              go_wp2_with fail
              go_still_tail 8, (by kernel_rfl)
              change wpList _ _ _ _ _ wr.drew
              go_wp2_with (go_at_call 23; refine (samePair_any _ _ _ _ _ p q S1.out T1.out S2.out T2.out).mono ?_; rintro e w5 ⟨rfl, hc5⟩; rw [← HBB.out]; have C5 := Lib.hid (HCh.out.drew.trans hc5 (fun _ f => f.elim)); clear hc5)
              go_roundg (ps.length - (k + 1))
              case measure => have := Hg.out; omega
              case rel => exact ⟨k + 1, by omega, rfl, by go_num, C5.out, by rw [Hr.out, HDp.out, HDq.out, HE.out]; simp⟩
            | false =>
              have HE : Hid (p ≠ q) := Lib.hid (by have := HBB.out; simpa using this.symm)
              have HF : Hid (decide (ps = qs) = false) := Lib.hid (by rw [decide_eq_false_iff_not, Hr.out, HDp.out, HDq.out]; intro h; injection h with h3; exact HE.out h3)
              go_wp2_with fail
              go_still_tail 8, (by kernel_rfl)
              change wpList _ _ _ _ _ wr.drew
              go_wp2_with (go_at_call 23; refine (samePair_any _ _ _ _ _ p q S1.out T1.out S2.out T2.out).mono ?_; rintro e w5 ⟨rfl, hc5⟩; rw [← HBB.out]; have C5 := Lib.hid (HCh.out.drew.trans hc5 (fun _ f => f.elim)); clear hc5)
              go_ret
              exact ⟨by rw [HF.out]; rfl, C5.out⟩
      · have HF : Hid (decide (ps = qs) = true) := Lib.hid (by rw [decide_eq_true_eq, Hr.out, List.drop_eq_nil_of_le (by omega), List.drop_eq_nil_of_le (by have := Hl.out; omega)])
        go_wp2_with fail
        go_ret
        exact ⟨by rw [HF.out]; rfl, HCh.out⟩
  · have hb : ((ps.length : Int) != (qs.length : Int)) = true := by rw [bne_iff_ne]; omega
    have HF : Hid (decide (ps = qs) = false) := Lib.hid (by rw [decide_eq_false_iff_not]; intro h; rw [h] at hlen; exact hlen rfl)
    clear hlen
    go_enter Tryz.func8, Tryz.ntmps8
    go_wp2_with fail
    go_ret
    exact ⟨by rw [HF.out]; rfl, Chg.refl _ _⟩
end Go.Proofs.YteejkkidnohcfaaGreatDoor
