/- Walk: the law DumpShort. -/
import Derived.Test.YteejkkidnohcfaaDoorW18
import Derived.Test.YteejkkidnohcfaaDoorW15
import Derived.Test.YteejkkidnohcfaaDoorX2
namespace Go.Proofs.YteejkkidnohcfaaDoor
open Go Go.RowKit Go.Maps

theorem conv_bytes (w : World) (T : ByteArray) : ∃ g cap w', (convert 9 22 (.string T)).run Tryd.prog w = .ok (.slice (some ⟨g, 0, none⟩) T.size cap) w' ∧ w.heap.size ≤ g ∧ Chg (fun _ => False) w w' ∧ (∀ (i : Nat) (x : UInt8), T.data.toList[i]? = some x → w'.cell? ⟨g, i, none⟩ = some (.int .u8 (x.toNat : Int))) ∧ (∀ i, i < T.size → w'.frozen? ⟨g, i, none⟩ = false) := by
  refine ⟨w.heap.size, grownCap w T.size 0 5, Lib.bytesWorld w 5 T, Lib.run_convert_string_bytes w 9 22 5 T Tryd.underlying9 Tryd.underlying22 Tryd.underlying5, Nat.le_refl _, chg_below (Lib.bytesWorld_below _ _ _), fun i x hx => ?_, fun i hi => ?_⟩
  · have hi : i < T.size := by have := (List.getElem?_eq_some_iff.1 hx).1; simpa using this
    rw [Lib.bytesWorld_cell w 5 T i hi]
    simp [List.getD, hx]
  · have h := Lib.bytesWorld_at_new w 5 T
    have hc : T.size ≤ (Lib.bytesCells w 5 T).size := by simp [Lib.bytesCells]
    simp [World.frozen?, h]
    omega
theorem sees_set {w : World} {g cap n i : Nat} {l : Bytes} {z y : UInt8} (hn : n = l.length) (hc : ∀ (i : Nat) (x : UInt8), l[i]? = some x → w.cell? ⟨g, i, none⟩ = some (.int .u8 (x.toNat : Int))) (hy : l[i]? = some y) :
    SeesB (w.setCell ⟨g, i, none⟩ (.int .u8 (z.toNat : Int))) (.slice (some ⟨g, 0, none⟩) n cap) (l.set i z) := by
  refine ⟨_, cap, by rw [List.length_set, hn], (fun e => by cases e), fun ad e k x hx => ?_⟩
  cases e
  rw [addr_add, Nat.zero_add]
  rw [List.getElem?_set] at hx
  by_cases e : i = k
  · subst e
    have hlt := (List.getElem?_eq_some_iff.1 hy).1
    rw [if_pos rfl, if_pos hlt] at hx
    cases hx
    exact World.cell?_setCell_same w _ _ (hc i y hy)
  · rw [if_neg e] at hx
    exact (World.cell?_setCell_other w _ _ _ (fun h => e (by injection h))).trans (hc k x hx)

theorem cut_bad {ps : List PairB} {T : ByteArray} {j : Nat} (ht : textB ps = (T.data.toList, 0)) (hj : j < T.size) {q : List PairB} {n : Nat} {c : Int} (hp : parseB (T.extract 0 j).data.toList = (q, n, c)) : c ≠ 0 ∧ q = [] ∧ 1 ≤ n := by
  have he : (T.extract 0 j).data.toList = T.data.toList.take j := by
    rw [ByteArray.data_extract, Array.toList_extract]
    simp [List.extract]
  have hc : c ≠ 0 := by
    rintro rfl
    have h2 := (text_parse hp).1
    rw [he] at h2
    have h1 : textB ps = (T.data.toList.take j ++ T.data.toList.drop j, 0) := by rw [List.take_append_drop]; exact ht
    have h3 := text_short h1 h2
    have h4 : (T.data.toList.drop j).length = T.size - j := by simp
    rw [h3] at h4
    simp at h4
    omega
  have h5 := parse_bad (t := (T.extract 0 j).data.toList) (by rw [hp]; exact hc)
  rw [hp] at h5
  exact ⟨hc, h5⟩

set_option maxRecDepth 100000 in
set_option maxHeartbeats 8000000 in
theorem short_law (w : World) (hE : Env w) (v1 : Value) (ps : List PairB) (h1 : SeesP w v1 ps) (hl1 : ps.length ≤ 9223372036854775807) (cut at' x : Int) (hx0 : 0 ≤ x) (hx1 : x < 256) : Calls Tryd.prog 8 #[v1, .int .i64 cut, .int .i64 at', .int .u8 x] w fun e w' => e = .returned (.bool true) ∧ Chg (fun _ => False) w w' := by
  have HE := Lib.hid hE
  have H1 := Lib.hid h1
  clear hE h1
  obtain ⟨T, c1, ht1⟩ : ∃ (T : ByteArray) (c : Int), textB ps = (T.data.toList, c) := ⟨⟨(textB ps).1.toArray⟩, (textB ps).2, by simp⟩
  have HT := Lib.hid ht1
  clear ht1
  go_enter Tryd.func8, Tryd.ntmps8
  go_wp2_with (go_at_call 9; refine (first_any _ HE.out).mono ?_; rintro e w1 ⟨rfl, hc1⟩; have C1 := Lib.hid hc1; clear hc1)
  refine (few_any _ v1 ps (H1.out.chg0 C1.out) hl1).mono ?_
  rintro e w2 ⟨b, rfl, hb, hc2⟩
  have C2 := Lib.hid (C1.out.trans hc2 (fun _ f => f.elim))
  clear hc2
  cases b with
  | false =>
    go_wp2_with (fail)
    go_ret
    exact ⟨rfl, C2.out⟩
  | true =>
    have HF1 := Lib.hid (hb rfl)
    clear hb
    go_wp2_with (fail)
    by_cases e1 : c1 = 0
    · subst e1
      refine (may_q _ v1 ps (H1.out.chg0 C2.out) HF1.out.small _ 0 true HT.out rfl).mono ?_
      rintro e w3 ⟨rfl, hc3⟩
      have C3 := Lib.hid (C2.out.trans hc3 (fun _ f => f.elim))
      clear hc3
      have hTl := few_text HF1.out HT.out
      have hTs : T.data.toList.length = T.size := by simp
      have hT0 : 0 < T.size := by
        rw [← hTs, text_ok HT.out, headOf, word]; simp
      have hTi : ¬ (T.size : Int) = 0 := by omega
      obtain ⟨j, hj, hJ⟩ := idx_of cut T.size hT0 (by omega)
      have HTl := Lib.hid hTl
      clear hTl hTs
      go_wp2_with (fail)
      refine (text_q _ (HE.out.chg0 C3.out) v1 ps (H1.out.chg0 C3.out) HF1.out.small T 0 HT.out).mono ?_
      rintro e w4 ⟨rfl, hc4⟩
      have C4 := Lib.hid (C3.out.trans hc4 (fun _ f => f.elim))
      clear hc4
      go_wp2_with (go_at_call 15; refine (num_any _ _).mono ?_; rintro e w' ⟨rfl, rfl⟩)
      obtain ⟨q, n, c, hp⟩ : ∃ q n c, parseB (T.extract 0 j).data.toList = (q, n, c) := ⟨_, _, _, rfl⟩
      obtain ⟨hc0, rfl, hn1⟩ := cut_bad HT.out hj hp
      have HP := Lib.hid hp
      clear hp
      refine (parse_q _ (HE.out.chg0 C4.out) (T.extract 0 j) (by have := HTl.out; simp at this; simp; omega) [] n c HP.out).mono ?_
      rintro e w5 ⟨a5, k5, rfl, -, hc5⟩
      have C5 := Lib.hid (C4.out.trans hc5 (fun _ f => f.elim))
      clear hc5
      have hc1 : (c == 0) = false := beq_eq_false_iff_ne.2 hc0
      have hni : ¬ (n : Int) < 1 := by omega
      by_cases hx : x = 0
      · subst hx
        go_wp2_with (go_at_call 15; refine (num_any _ _).mono ?_; rintro e w' ⟨rfl, rfl⟩)
        go_ret
        exact ⟨rfl, C5.out⟩
      · have hxb : (x == 0) = false := beq_eq_false_iff_ne.2 hx
        go_wp2_with (go_at_call 15; refine (num_any _ _).mono ?_; rintro e w' ⟨rfl, rfl⟩)
        obtain ⟨g, cap, w6, hconv, hg, hc6, hcell, hfz⟩ := conv_bytes w5 T
        rw [hconv]
        simp only [Result.andThen]
        have C6 := Lib.hid (C5.out.trans hc6 (fun _ f => f.elim))
        have HG : Hid (w.heap.size ≤ g) := Lib.hid (Nat.le_trans C5.out.size hg)
        obtain ⟨i, hi, hI⟩ := idx_of at' T.size hT0 (by have := HTl.out; simp at this; omega)
        obtain ⟨y, hy⟩ : ∃ y, T.data.toList[i]? = some y := ⟨_, List.getElem?_eq_getElem (by simpa using hi)⟩
        obtain ⟨z, hz⟩ := xor_lo y hx0 hx1
        have hne : z ≠ y := by
          rintro rfl
          exact xor_ne z hx0 hx1 hx hz
        have hcy := hcell i y hy
        have hfi := hfz i hi
        have hii : (i : Int) < (T.size : Int) := by omega
        have SL := Lib.hid (sees_set (w := w6) (g := g) (cap := cap) (n := T.size) (z := z) (by simp) hcell hy)
        have hk := SL.out.conv
        have C7 := Lib.hid (C6.out.setCell (p := ⟨g, i, none⟩) (Or.inr HG.out) (.int .u8 (z.toNat : Int)))
        have HNe : Hid (T.data.toList.set i z ≠ T.data.toList) := Lib.hid (by
          intro e
          have h : (T.data.toList.set i z)[i]? = T.data.toList[i]? := by rw [e]
          rw [hy, List.getElem?_set, if_pos rfl, if_pos (List.getElem?_eq_some_iff.1 hy).1] at h
          exact hne (Option.some.inj h))
        obtain ⟨T', hT'⟩ : ∃ T' : ByteArray, T' = ⟨(T.data.toList.set i z).toArray⟩ := ⟨_, rfl⟩
        rw [← hT'] at hk
        have HT' : Hid (T'.data.toList = T.data.toList.set i z) := Lib.hid (by rw [hT'])
        have HTs : Hid (T'.size ≤ 134217728) := Lib.hid (by
          have h1 : T'.data.toList.length = T'.size := by simp
          have h2 := HTl.out
          rw [HT'.out, List.length_set] at h1
          omega)
        obtain ⟨q2, n2, c2, hp2⟩ : ∃ q n c, parseB T'.data.toList = (q, n, c) := ⟨_, _, _, rfl⟩
        have HP2 := Lib.hid hp2
        clear hp2 hT' hcell hfz hy hc6 hg hne hconv
        go_wp2_with (fail)
        by_cases h2 : c2 = 0
        · subst h2
          have hp3 := text_parse HP2.out
          have hne2 : q2 ≠ ps := by
            rintro rfl
            have h4 := HT.out
            rw [hp3.1] at h4
            have h5 := (Prod.mk.inj h4).1
            rw [HT'.out] at h5
            exact HNe.out h5
          have HN2 := Lib.hid hne2
          have HL2 := Lib.hid hp3.2.2
          clear hne2 hp3
          refine (parse_q _ (HE.out.chg0 C7.out) T' HTs.out q2 n2 0 HP2.out).mono ?_
          rintro e w8 ⟨a8, k8, rfl, hs8, hc8⟩
          have C8 := Lib.hid (C7.out.trans hc8 (fun _ f => f.elim))
          have HS8 := Lib.hid hs8
          clear hs8 hc8
          go_wp2_with (fail)
          refine (samePairs_any _ _ _ q2 ps HS8.out (H1.out.chg0 C8.out) (by have := HL2.out; omega)).mono ?_
          rintro e w9 ⟨rfl, hc9⟩
          rw [decide_eq_false HN2.out]
          have C9 := Lib.hid (C8.out.trans hc9 (fun _ f => f.elim))
          clear hc9
          go_wp2_with (go_at_call 15; refine (num_any _ _).mono ?_; rintro e w' ⟨rfl, rfl⟩)
          go_ret
          exact ⟨rfl, C9.out⟩
        · have h2b : (c2 == 0) = false := beq_eq_false_iff_ne.2 h2
          have hq := parse_bad (t := T'.data.toList) (by rw [HP2.out]; exact h2)
          rw [HP2.out] at hq
          obtain ⟨hq1, -⟩ := hq
          simp only at hq1
          subst hq1
          refine (parse_q _ (HE.out.chg0 C7.out) T' HTs.out [] n2 c2 HP2.out).mono ?_
          rintro e w8 ⟨a8, k8, rfl, hs8, hc8⟩
          have C8 := Lib.hid (C7.out.trans hc8 (fun _ f => f.elim))
          have HS8 := Lib.hid hs8
          clear hs8 hc8
          go_wp2_with (fail)
          refine (samePairs_any _ _ _ [] ps HS8.out (H1.out.chg0 C8.out) (by simp)).mono ?_
          rintro e w9 ⟨rfl, hc9⟩
          obtain ⟨bb, hbb⟩ : ∃ bb, bb = decide (([] : List PairB) = ps) := ⟨_, rfl⟩
          rw [← hbb]
          have C9 := Lib.hid (C8.out.trans hc9 (fun _ f => f.elim))
          clear hc9
          go_wp2_with (go_at_call 15; refine (num_any _ _).mono ?_; rintro e w' ⟨rfl, rfl⟩)
          go_ret
          exact ⟨rfl, C9.out⟩
    · refine (may_q _ v1 ps (H1.out.chg0 C2.out) HF1.out.small _ c1 false HT.out (by rw [decide_eq_false e1])).mono ?_
      rintro e w3 ⟨rfl, hc3⟩
      have C3 := Lib.hid (C2.out.trans hc3 (fun _ f => f.elim))
      clear hc3
      go_wp2_with (fail)
      go_ret
      exact ⟨rfl, C3.out⟩
end Go.Proofs.YteejkkidnohcfaaDoor
