/- Walk: the law DumpBack. (Printed by back.py.) -/
import Derived.Test.YteejkkidnohcfaaDoorW18
namespace Go.Proofs.YteejkkidnohcfaaDoor
open Go Go.RowKit Go.Maps

set_option maxRecDepth 100000 in
set_option maxHeartbeats 8000000 in
theorem back_law (w : World) (hE : Env w) (v1 v2 : Value) (ps qs : List PairB) (h1 : SeesP w v1 ps) (h2 : SeesP w v2 qs) (hl1 : ps.length ≤ 9223372036854775807) (hl2 : qs.length ≤ 9223372036854775807) (s : ByteArray) (hs : s.size ≤ 9223372036854775807) : Calls Tryd.prog 7 #[v1, v2, .string s] w fun e w' => e = .returned (.bool true) ∧ Chg (fun _ => False) w w' := by
  have HE := Lib.hid hE
  have H1 := Lib.hid h1
  have H2 := Lib.hid h2
  clear hE h1 h2
  obtain ⟨T1, c1, ht1⟩ : ∃ (T : ByteArray) (c : Int), textB ps = (T.data.toList, c) := ⟨⟨(textB ps).1.toArray⟩, (textB ps).2, by simp⟩
  obtain ⟨T2, c2, ht2⟩ : ∃ (T : ByteArray) (c : Int), textB qs = (T.data.toList, c) := ⟨⟨(textB qs).1.toArray⟩, (textB qs).2, by simp⟩
  obtain ⟨q, n, c, hp⟩ : ∃ q n c, parseB s.data.toList = (q, n, c) := ⟨_, _, _, rfl⟩
  have HT1 := Lib.hid ht1
  have HT2 := Lib.hid ht2
  have HP := Lib.hid hp
  clear ht1 ht2 hp
  go_enter Tryd.func7, Tryd.ntmps7
  go_wp2_with (go_at_call 9; refine (first_any _ HE.out).mono ?_; rintro e w1 ⟨rfl, hc1⟩; have C1 := Lib.hid hc1; clear hc1)
  refine (few_any _ v1 ps (H1.out.chg0 C1.out) hl1).mono ?_
  rintro e w2 ⟨b, rfl, hb, hc2⟩
  have C2 := Lib.hid (C1.out.trans hc2 (fun _ f => f.elim))
  clear hc2
  cases b with
  | false =>
    go_wp2_with (fail)
    go_ret
    exact ⟨rfl, C2.out⟩
  | true =>
    have HF1 := Lib.hid (hb rfl)
    clear hb
    go_wp2_with (fail)
    refine (few_any _ v2 qs (H2.out.chg0 C2.out) hl2).mono ?_
    rintro e w3 ⟨b, rfl, hb, hc3⟩
    have C3 := Lib.hid (C2.out.trans hc3 (fun _ f => f.elim))
    clear hc3
    cases b with
    | false =>
      go_wp2_with (fail)
      go_ret
      exact ⟨rfl, C3.out⟩
    | true =>
      have HF2 := Lib.hid (hb rfl)
      clear hb
      by_cases hlen : 1048576 < s.size
      · have hbi : (1048576 : Int) < (s.size : Int) := by omega
        go_wp2_with (fail)
        go_ret
        exact ⟨rfl, C3.out⟩
      · have hbi : ¬ (1048576 : Int) < (s.size : Int) := by omega
        go_wp2_with (fail)
        refine (text_q _ (HE.out.chg0 C3.out) v1 ps (H1.out.chg0 C3.out) HF1.out.small T1 c1 HT1.out).mono ?_
        rintro e w4 ⟨rfl, hc4⟩
        have C4 := Lib.hid (C3.out.trans hc4 (fun _ f => f.elim))
        clear hc4
        go_wp2_with (fail)
        refine (text_q _ (HE.out.chg0 C4.out) v2 qs (H2.out.chg0 C4.out) HF2.out.small T2 c2 HT2.out).mono ?_
        rintro e w5 ⟨rfl, hc5⟩
        have C5 := Lib.hid (C4.out.trans hc5 (fun _ f => f.elim))
        clear hc5
        by_cases e1 : c1 = 0
        · subst e1
          by_cases e2 : c2 = 0
          · subst e2
            have hq0 : (T1.toList == T2.toList) = decide (ps = qs) := by
              rw [bytes_beq]
              refine decide_eq_decide.2 ⟨fun e => ?_, fun e => ?_⟩
              · have h2 := HT2.out
                rw [← e] at h2
                exact text_inj HT1.out h2 (by have := HF1.out.len; omega) (by have := HF2.out.len; omega)
              · subst e
                have h2 := HT2.out
                rw [HT1.out] at h2
                exact (Prod.mk.inj h2).1
            obtain ⟨bb, hbb⟩ : ∃ bb, bb = decide (ps = qs) := ⟨_, rfl⟩
            rw [← hbb] at hq0
            have HBB := Lib.hid hbb
            have hbn : (bb != bb) = false := by cases bb <;> rfl
            clear hbb
            go_wp2_with (go_at_call 15; refine (num_any _ _).mono ?_; rintro e w' ⟨rfl, rfl⟩)
            refine (may_q _ v1 ps (H1.out.chg0 C5.out) HF1.out.small _ 0 true HT1.out rfl).mono ?_
            rintro e w6 ⟨rfl, hc6⟩
            have C6 := Lib.hid (C5.out.trans hc6 (fun _ f => f.elim))
            clear hc6
            go_wp2_with (go_at_call 15; refine (num_any _ _).mono ?_; rintro e w' ⟨rfl, rfl⟩)
            refine (may_q _ v2 qs (H2.out.chg0 C6.out) HF2.out.small _ 0 true HT2.out rfl).mono ?_
            rintro e w7 ⟨rfl, hc7⟩
            have C7 := Lib.hid (C6.out.trans hc7 (fun _ f => f.elim))
            clear hc7
            go_wp2_with (go_at_call 15; refine (num_any _ _).mono ?_; rintro e w' ⟨rfl, rfl⟩)
            refine (parse_q _ (HE.out.chg0 C7.out) T1 (by have := few_text HF1.out HT1.out; simpa using this) ps 0 0 (parse_text HT1.out (by have := HF1.out.len; omega))).mono ?_
            rintro e w8 ⟨a8, k8, rfl, hs8, hc8⟩
            have C8 := Lib.hid (C7.out.trans hc8 (fun _ f => f.elim))
            have HS8 := Lib.hid hs8
            clear hs8 hc8
            go_wp2_with (fail)
            refine (samePairs_any _ _ _ ps ps HS8.out (H1.out.chg0 C8.out) (by have := HF1.out.len; omega)).mono ?_
            rintro e w9 ⟨rfl, hc9⟩
            rw [decide_eq_true rfl]
            have C9 := Lib.hid (C8.out.trans hc9 (fun _ f => f.elim))
            clear hc9
            go_wp2_with (go_at_call 15; refine (num_any _ _).mono ?_; rintro e w' ⟨rfl, rfl⟩)
            refine (samePairs_any _ _ _ ps qs (H1.out.chg0 C9.out) (H2.out.chg0 C9.out) (by have := HF1.out.len; omega)).mono ?_
            rintro e w10 ⟨rfl, hc10⟩
            rw [← HBB.out]
            have C10 := Lib.hid (C9.out.trans hc10 (fun _ f => f.elim))
            clear hc10
            go_wp2_with (fail)
            refine (parse_q _ (HE.out.chg0 C10.out) s (by omega) q n c HP.out).mono ?_
            rintro e wt ⟨at', kt, rfl, hst, hct⟩
            have CT := Lib.hid (C10.out.trans hct (fun _ f => f.elim))
            have HST := Lib.hid hst
            clear hst hct
            by_cases hh : c = 0
            · subst hh
              have HQ := Lib.hid (text_parse HP.out).1
              have hn0 : n = 0 := (text_parse HP.out).2.1
              subst hn0
              go_wp2_with (go_at_call 15; refine (num_any _ _).mono ?_; rintro e w' ⟨rfl, rfl⟩)
              refine (text_q _ (HE.out.chg0 CT.out) _ q HST.out (small_parse HQ.out (by simpa using (by omega : s.size ≤ 1048576))) s 0 HQ.out).mono ?_
              rintro e wu ⟨rfl, hcu⟩
              have CU := Lib.hid (CT.out.trans hcu (fun _ f => f.elim))
              clear hcu
              go_wp2_with (go_at_call 15; refine (num_any _ _).mono ?_; rintro e w' ⟨rfl, rfl⟩)
              go_ret
              exact ⟨rfl, CU.out⟩
            · have hq := parse_bad (t := s.data.toList) (by rw [HP.out]; exact hh)
              rw [HP.out] at hq
              obtain ⟨hq1, hq2⟩ := hq
              simp only at hq1 hq2
              subst hq1
              have hn1 : (1 : Int) ≤ (n : Int) := by omega
              go_wp2_with (go_at_call 15; refine (num_any _ _).mono ?_; rintro e w' ⟨rfl, rfl⟩)
              go_ret
              exact ⟨rfl, CT.out⟩
          · have HN := Lib.hid e2
            go_wp2_with (go_at_call 15; refine (num_any _ _).mono ?_; rintro e w' ⟨rfl, rfl⟩)
            refine (may_q _ v1 ps (H1.out.chg0 C5.out) HF1.out.small _ 0 true HT1.out rfl).mono ?_
            rintro e w6 ⟨rfl, hc6⟩
            have C6 := Lib.hid (C5.out.trans hc6 (fun _ f => f.elim))
            clear hc6
            go_wp2_with (go_at_call 15; refine (num_any _ _).mono ?_; rintro e w' ⟨rfl, rfl⟩)
            refine (may_q _ v2 qs (H2.out.chg0 C6.out) HF2.out.small _ c2 false HT2.out (by rw [decide_eq_false e2])).mono ?_
            rintro e w7 ⟨rfl, hc7⟩
            have C7 := Lib.hid (C6.out.trans hc7 (fun _ f => f.elim))
            clear hc7
            go_wp2_with (go_at_call 15; refine (num_any _ _).mono ?_; rintro e w' ⟨rfl, rfl⟩)
            refine (parse_q _ (HE.out.chg0 C7.out) T1 (by have := few_text HF1.out HT1.out; simpa using this) ps 0 0 (parse_text HT1.out (by have := HF1.out.len; omega))).mono ?_
            rintro e w8 ⟨a8, k8, rfl, hs8, hc8⟩
            have C8 := Lib.hid (C7.out.trans hc8 (fun _ f => f.elim))
            have HS8 := Lib.hid hs8
            clear hs8 hc8
            go_wp2_with (fail)
            refine (samePairs_any _ _ _ ps ps HS8.out (H1.out.chg0 C8.out) (by have := HF1.out.len; omega)).mono ?_
            rintro e w9 ⟨rfl, hc9⟩
            rw [decide_eq_true rfl]
            have C9 := Lib.hid (C8.out.trans hc9 (fun _ f => f.elim))
            clear hc9
            go_wp2_with (go_at_call 15; refine (num_any _ _).mono ?_; rintro e w' ⟨rfl, rfl⟩)
            refine (parse_q _ (HE.out.chg0 C9.out) s (by omega) q n c HP.out).mono ?_
            rintro e wt ⟨at', kt, rfl, hst, hct⟩
            have CT := Lib.hid (C9.out.trans hct (fun _ f => f.elim))
            have HST := Lib.hid hst
            clear hst hct
            by_cases hh : c = 0
            · subst hh
              have HQ := Lib.hid (text_parse HP.out).1
              have hn0 : n = 0 := (text_parse HP.out).2.1
              subst hn0
              go_wp2_with (go_at_call 15; refine (num_any _ _).mono ?_; rintro e w' ⟨rfl, rfl⟩)
              refine (text_q _ (HE.out.chg0 CT.out) _ q HST.out (small_parse HQ.out (by simpa using (by omega : s.size ≤ 1048576))) s 0 HQ.out).mono ?_
              rintro e wu ⟨rfl, hcu⟩
              have CU := Lib.hid (CT.out.trans hcu (fun _ f => f.elim))
              clear hcu
              go_wp2_with (go_at_call 15; refine (num_any _ _).mono ?_; rintro e w' ⟨rfl, rfl⟩)
              go_ret
              exact ⟨rfl, CU.out⟩
            · have hq := parse_bad (t := s.data.toList) (by rw [HP.out]; exact hh)
              rw [HP.out] at hq
              obtain ⟨hq1, hq2⟩ := hq
              simp only at hq1 hq2
              subst hq1
              have hn1 : (1 : Int) ≤ (n : Int) := by omega
              go_wp2_with (go_at_call 15; refine (num_any _ _).mono ?_; rintro e w' ⟨rfl, rfl⟩)
              go_ret
              exact ⟨rfl, CT.out⟩
        · by_cases e2 : c2 = 0
          · subst e2
            go_wp2_with (go_at_call 15; refine (num_any _ _).mono ?_; rintro e w' ⟨rfl, rfl⟩)
            refine (may_q _ v1 ps (H1.out.chg0 C5.out) HF1.out.small _ c1 false HT1.out (by rw [decide_eq_false e1])).mono ?_
            rintro e w6 ⟨rfl, hc6⟩
            have C6 := Lib.hid (C5.out.trans hc6 (fun _ f => f.elim))
            clear hc6
            go_wp2_with (go_at_call 15; refine (num_any _ _).mono ?_; rintro e w' ⟨rfl, rfl⟩)
            refine (may_q _ v2 qs (H2.out.chg0 C6.out) HF2.out.small _ 0 true HT2.out rfl).mono ?_
            rintro e w7 ⟨rfl, hc7⟩
            have C7 := Lib.hid (C6.out.trans hc7 (fun _ f => f.elim))
            clear hc7
            go_wp2_with (go_at_call 15; refine (num_any _ _).mono ?_; rintro e w' ⟨rfl, rfl⟩)
            refine (parse_q _ (HE.out.chg0 C7.out) s (by omega) q n c HP.out).mono ?_
            rintro e wt ⟨at', kt, rfl, hst, hct⟩
            have CT := Lib.hid (C7.out.trans hct (fun _ f => f.elim))
            have HST := Lib.hid hst
            clear hst hct
            by_cases hh : c = 0
            · subst hh
              have HQ := Lib.hid (text_parse HP.out).1
              have hn0 : n = 0 := (text_parse HP.out).2.1
              subst hn0
              go_wp2_with (go_at_call 15; refine (num_any _ _).mono ?_; rintro e w' ⟨rfl, rfl⟩)
              refine (text_q _ (HE.out.chg0 CT.out) _ q HST.out (small_parse HQ.out (by simpa using (by omega : s.size ≤ 1048576))) s 0 HQ.out).mono ?_
              rintro e wu ⟨rfl, hcu⟩
              have CU := Lib.hid (CT.out.trans hcu (fun _ f => f.elim))
              clear hcu
              go_wp2_with (go_at_call 15; refine (num_any _ _).mono ?_; rintro e w' ⟨rfl, rfl⟩)
              go_ret
              exact ⟨rfl, CU.out⟩
            · have hq := parse_bad (t := s.data.toList) (by rw [HP.out]; exact hh)
              rw [HP.out] at hq
              obtain ⟨hq1, hq2⟩ := hq
              simp only at hq1 hq2
              subst hq1
              have hn1 : (1 : Int) ≤ (n : Int) := by omega
              go_wp2_with (go_at_call 15; refine (num_any _ _).mono ?_; rintro e w' ⟨rfl, rfl⟩)
              go_ret
              exact ⟨rfl, CT.out⟩
          · have HN := Lib.hid e2
            have d1 : (c1 == 0) = false := beq_eq_false_iff_ne.2 e1
            have d2 : (c2 == 0) = false := beq_eq_false_iff_ne.2 e2
            go_wp2_with (go_at_call 15; refine (num_any _ _).mono ?_; rintro e w' ⟨rfl, rfl⟩)
            refine (may_q _ v1 ps (H1.out.chg0 C5.out) HF1.out.small _ c1 false HT1.out (by rw [decide_eq_false e1])).mono ?_
            rintro e w6 ⟨rfl, hc6⟩
            have C6 := Lib.hid (C5.out.trans hc6 (fun _ f => f.elim))
            clear hc6
            go_wp2_with (go_at_call 15; refine (num_any _ _).mono ?_; rintro e w' ⟨rfl, rfl⟩)
            refine (may_q _ v2 qs (H2.out.chg0 C6.out) HF2.out.small _ c2 false HT2.out (by rw [decide_eq_false e2])).mono ?_
            rintro e w7 ⟨rfl, hc7⟩
            have C7 := Lib.hid (C6.out.trans hc7 (fun _ f => f.elim))
            clear hc7
            go_wp2_with (go_at_call 15; refine (num_any _ _).mono ?_; rintro e w' ⟨rfl, rfl⟩)
            refine (parse_q _ (HE.out.chg0 C7.out) s (by omega) q n c HP.out).mono ?_
            rintro e wt ⟨at', kt, rfl, hst, hct⟩
            have CT := Lib.hid (C7.out.trans hct (fun _ f => f.elim))
            have HST := Lib.hid hst
            clear hst hct
            by_cases hh : c = 0
            · subst hh
              have HQ := Lib.hid (text_parse HP.out).1
              have hn0 : n = 0 := (text_parse HP.out).2.1
              subst hn0
              go_wp2_with (go_at_call 15; refine (num_any _ _).mono ?_; rintro e w' ⟨rfl, rfl⟩)
              refine (text_q _ (HE.out.chg0 CT.out) _ q HST.out (small_parse HQ.out (by simpa using (by omega : s.size ≤ 1048576))) s 0 HQ.out).mono ?_
              rintro e wu ⟨rfl, hcu⟩
              have CU := Lib.hid (CT.out.trans hcu (fun _ f => f.elim))
              clear hcu
              go_wp2_with (go_at_call 15; refine (num_any _ _).mono ?_; rintro e w' ⟨rfl, rfl⟩)
              go_ret
              exact ⟨rfl, CU.out⟩
            · have hq := parse_bad (t := s.data.toList) (by rw [HP.out]; exact hh)
              rw [HP.out] at hq
              obtain ⟨hq1, hq2⟩ := hq
              simp only at hq1 hq2
              subst hq1
              have hn1 : (1 : Int) ≤ (n : Int) := by omega
              go_wp2_with (go_at_call 15; refine (num_any _ _).mono ?_; rintro e w' ⟨rfl, rfl⟩)
              go_ret
              exact ⟨rfl, CT.out⟩
end Go.Proofs.YteejkkidnohcfaaDoor
