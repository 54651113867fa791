/- Walks: parses, edited. -/
import Derived.Test.YteejkkidnohcfaaDoorN3
import Derived.Test.YteejkkidnohcfaaDoorO2
import Derived.Test.YteejkkidnohcfaaDoorW18
import Derived.Test.YteejkkidnohcfaaDoorM7
import Derived.WalkLawsBesides
namespace Go.Proofs.YteejkkidnohcfaaDoor
open Go Go.RowKit Go.Maps

theorem rparse_q (w : World) (s : ByteArray) (hs : s.size ≤ 134217728) (q : List PairB) (n : Nat) (c : Int) (hp : parseB s.data.toList = (q, n, c)) :
    Calls Tryd.prog 39 #[.string s] w fun e w' => ∃ a k, e = .returned (.tuple #[.slice a q.length k, .int .i64 (n : Int), .int .i64 c]) ∧ SeesP w' (.slice a q.length k) q ∧ Chg (fun _ => False) w w' := by
  refine (rparse_any w s hs).mono ?_
  rintro e w' ⟨⟨v, vs, rfl, hr⟩, hc⟩
  rw [hp] at hr ⊢
  obtain ⟨a, k, rfl⟩ := hr.shape
  exact ⟨a, k, rfl, hr.seesP, hc⟩
theorem parse_len {t : Bytes} {q : List PairB} {n : Nat} {c : Int} (hp : parseB t = (q, n, c)) : q.length ≤ 2147483647 := by
  by_cases hc : c = 0
  · subst hc
    exact (text_parse hp).2.2
  · have h := (parse_bad (t := t) (by rw [hp]; exact hc)).1
    rw [hp] at h
    simp only at h
    rw [h]; simp

set_option maxRecDepth 100000 in
set_option maxHeartbeats 4000000 in
theorem parses_any (w : World) (hE : Env w) (s : ByteArray) (hs : s.size ≤ 134217728) :
    Calls Tryd.prog 23 #[.string s] w fun e w' => e = .returned (.bool true) ∧ Chg (fun _ => False) w w' := by
  have HE := Lib.hid hE
  obtain ⟨q, n, c, hp⟩ : ∃ q n c, parseB s.data.toList = (q, n, c) := ⟨_, _, _, rfl⟩
  have HP := Lib.hid hp
  have hl := parse_len hp
  clear hp hE
  go_enter Tryd.func23, Tryd.ntmps23
  go_wp2_with fail
  refine (parse_q _ HE.out s hs q n c HP.out).mono ?_
  rintro e w1 ⟨a1, k1, rfl, hs1, hc1⟩
  have C1 := Lib.hid hc1
  have HS1 := Lib.hid hs1
  clear hc1 hs1
  go_wp2_with fail
  refine (rparse_q _ s hs q n c HP.out).mono ?_
  rintro e w2 ⟨a2, k2, rfl, hs2, hc2⟩
  have C2 := Lib.hid (C1.out.trans hc2 (fun _ f => f.elim))
  have HS2 := Lib.hid hs2
  have HS3 := Lib.hid (HS1.out.chg0 hc2)
  clear hc2 hs2
  go_wp2_with fail
  refine (samePairs_any _ _ _ q q HS3.out HS2.out (by omega)).mono ?_
  rintro e w3 ⟨rfl, hc3⟩
  rw [decide_eq_true rfl]
  have C3 := Lib.hid (C2.out.trans hc3 (fun _ f => f.elim))
  clear hc3
  go_wp2_with (go_at_call 15; refine (num_any _ _).mono ?_; rintro e w' ⟨rfl, rfl⟩)
  go_ret
  exact ⟨rfl, C3.out⟩

theorem idx_of1 (a : Int) (n : Nat) (h1 : n ≤ 1099511627775) : ∃ j : Nat, j ≤ n ∧ (wrap64 (a.tmod ((n : Int) + 1) + ((n : Int) + 1))).tmod ((n : Int) + 1) = (j : Int) := by
  obtain ⟨j, h2, h3⟩ := idx_of a (n + 1) (by omega) (by omega)
  refine ⟨j, by omega, ?_⟩
  rw [← h3]
  simp

set_option maxRecDepth 100000 in
set_option maxHeartbeats 4000000 in
theorem edited_any (w : World) (s : ByteArray) (v : Value) (es : List (Int × Int × ByteArray)) (h : SeesE w v es) (hs : s.size ≤ 134000000) (hl : es.length ≤ 9223372036854775807) :
    Calls Tryd.prog 24 #[.string s, v] w fun e w' => ∃ T : ByteArray, e = .returned (.string T) ∧ T.size ≤ 134217728 ∧ Chg (fun _ => False) w w' := by
  have HP := Lib.hid h
  obtain ⟨a, cap, rfl, hn, hc⟩ := h
  have Hn := Lib.hid hn
  clear hn hc
  go_enter Tryd.func24, Tryd.ntmps24
  go_wp2_with fail
  go_loopg [0, 5, 6, 7, 8] es.length (fun gm tv iv _ _ _ wr => ∃ (k : Nat) (T : ByteArray), k ≤ es.length ∧ k ≤ 10 ∧ gm = es.length - k ∧ iv = .int .i64 k ∧ tv = .string T ∧ T.size ≤ 134000000 + 100 * k ∧ Chg (fun _ => False) w wr)
  case atStart => exact ⟨0, s, by omega, by omega, rfl, rfl, rfl, by omega, Chg.refl _ _⟩
  case round =>
    obtain ⟨k, T, hk, hk10, hg, rfl, rfl, hT, hch⟩ := hrel
    have Hg := Lib.hid hg
    have HCh := Lib.hid hch
    clear hg hch
    by_cases hlt : k < es.length
    · have hki : (k : Int) < (es.length : Int) := by omega
      have hk0 : (0 : Int) ≤ (k : Int) := by omega
      by_cases h10 : k < 10
      · have h10i : (k : Int) < 10 := by omega
        obtain ⟨ed, hed⟩ : ∃ ed, es[k]? = some ed := ⟨_, List.getElem?_eq_getElem hlt⟩
        obtain ⟨_, _, e1, hnn, f1⟩ := HP.out.chg0 HCh.out
        cases e1
        cases a with
        | none => have h := hnn rfl; rw [h] at hlt; simp at hlt
        | some ad =>
          obtain ⟨c0, c1, c2⟩ := f1 ad rfl k ed hed
          obtain ⟨x, y, z⟩ := ed
          have c1' : wr.cell? ⟨(ad.add (k * 3)).block, (ad.add (k * 3)).off + 1, none⟩ = some (.int .i64 y) := by
            have h3 : wr.cell? ((ad.add (k * 3)).add 1) = some (.int .i64 y) := by rw [add_add]; exact c1
            exact h3
          have c2' : wr.cell? ⟨(ad.add (k * 3)).block, (ad.add (k * 3)).off + 2, none⟩ = some (.string z) := by
            have h3 : wr.cell? ((ad.add (k * 3)).add 2) = some (.string z) := by rw [add_add]; exact c2
            exact h3
          change wr.cell? (ad.add (k * 3)) = some (.int .i64 x) at c0
          clear c1 c2 hed f1 hnn
          by_cases hz : 100 < z.size
          · have hzi : (100 : Int) < (z.size : Int) := by omega
            go_wp2_with fail
            go_roundg (es.length - (k + 1))
            case measure => have := Hg.out; omega
            case rel => exact ⟨k + 1, T, by omega, by omega, rfl, by go_num, rfl, by omega, HCh.out⟩
          · have hzi : ¬ (100 : Int) < (z.size : Int) := by omega
            obtain ⟨j, hj, hJ⟩ := idx_of1 x T.size (by omega)
            have hn0 : ¬ (T.size : Int) + 1 = 0 := by omega
            obtain ⟨m, hm1, hm2, hM⟩ : ∃ m : Nat, j ≤ m ∧ m ≤ T.size ∧ min (T.size : Int) ((j : Int) + max 0 (min y 100)) = (m : Int) := ⟨(min (T.size : Int) ((j : Int) + max 0 (min y 100))).toNat, by omega, by omega, by omega⟩
            have j0 : (0 : Int) ≤ (j : Int) := by omega
            have j1 : (j : Int) ≤ (T.size : Int) := by omega
            have m0 : (0 : Int) ≤ (m : Int) := by omega
            have m1 : (m : Int) ≤ (T.size : Int) := by omega
            have q1 : ¬ (9223372036854775807 : Nat) < j + z.size := by omega
            have q2 : ¬ (9223372036854775807 : Nat) < j + z.size + (T.size - m) := by omega
            have HMM : Hid (j ≤ m ∧ m ≤ T.size ∧ z.size ≤ 100) := Lib.hid ⟨hm1, hm2, by omega⟩
            clear hm1 hm2
            go_wp2_with fail
            go_quiet (fail)
            go_wp2_with fail
            go_roundg (es.length - (k + 1))
            case measure => have := Hg.out; omega
            case rel =>
              refine ⟨k + 1, _, by omega, by omega, rfl, by go_num, rfl, ?_, HCh.out.drewN _⟩
              obtain ⟨h1, h2, h3⟩ := HMM.out
              rw [ByteArray.size_append, ByteArray.size_append, ByteArray.size_extract, ByteArray.size_extract]
              omega
      · have h10i : ¬ (k : Int) < 10 := by omega
        go_wp2_with fail
        go_ret
        exact ⟨T, rfl, by omega, HCh.out⟩
    · have hki : ¬ (k : Int) < (es.length : Int) := by omega
      go_wp2_with fail
      go_ret
      exact ⟨T, rfl, by omega, HCh.out⟩

set_option maxRecDepth 100000 in
set_option maxHeartbeats 8000000 in
theorem parses_law (w : World) (hE : Env w) (s : ByteArray) (hs : s.size ≤ 9223372036854775807) (v1 v2 : Value) (ps : List PairB) (es : List (Int × Int × ByteArray)) (h1 : SeesP w v1 ps) (h2 : SeesE w v2 es) (hl1 : ps.length ≤ 9223372036854775807) (hl2 : es.length ≤ 9223372036854775807) : Calls Tryd.prog 6 #[.string s, v1, v2] w fun e w' => e = .returned (.bool true) ∧ Chg (fun _ => False) w w' := by
  have HE := Lib.hid hE
  have H1 := Lib.hid h1
  have H2 := Lib.hid h2
  clear hE h1 h2
  obtain ⟨T, c, ht⟩ : ∃ (T : ByteArray) (c : Int), textB ps = (T.data.toList, c) := ⟨⟨(textB ps).1.toArray⟩, (textB ps).2, by simp⟩
  have HT := Lib.hid ht
  clear ht
  by_cases hlen : 1048576 < s.size
  · have hbi : (1048576 : Int) < (s.size : Int) := by omega
    clear hlen
    go_enter Tryd.func6, Tryd.ntmps6
    go_wp2_with (go_at_call 9; refine (first_any _ HE.out).mono ?_; rintro e w1 ⟨rfl, hc1⟩; have C1 := Lib.hid hc1; clear hc1)
    go_ret
    exact ⟨rfl, C1.out⟩
  · have hbi : ¬ (1048576 : Int) < (s.size : Int) := by omega
    go_enter Tryd.func6, Tryd.ntmps6
    go_wp2_with (go_at_call 9; refine (first_any _ HE.out).mono ?_; rintro e w1 ⟨rfl, hc1⟩; have C1 := Lib.hid hc1; clear hc1)
    refine (few_any _ v1 ps (H1.out.chg0 C1.out) hl1).mono ?_
    rintro e w2 ⟨b, rfl, hb, hc2⟩
    have C2 := Lib.hid (C1.out.trans hc2 (fun _ f => f.elim))
    clear hc2
    cases b with
    | false =>
      go_wp2_with (fail)
      go_ret
      exact ⟨rfl, C2.out⟩
    | true =>
      have HF := Lib.hid (hb rfl)
      clear hb
      go_wp2_with (fail)
      refine (parses_any _ (HE.out.chg0 C2.out) s (by omega)).mono ?_
      rintro e w3 ⟨rfl, hc3⟩
      have C3 := Lib.hid (C2.out.trans hc3 (fun _ f => f.elim))
      clear hc3
      go_wp2_with (fail)
      refine (rtext_q _ v1 ps (H1.out.chg0 C3.out) HF.out.small T c HT.out).mono ?_
      rintro e w4 ⟨rfl, hc4⟩
      have C4 := Lib.hid (C3.out.trans hc4 (fun _ f => f.elim))
      clear hc4
      by_cases hc0 : c = 0
      · subst hc0
        have hTl : T.size ≤ 134000000 := by
          have h3 := text_ok HT.out
          have h4 : T.data.toList.length = T.size := by simp
          have h5 := congrArg List.length h3
          rw [headOf, List.length_append, List.length_append, List.length_append] at h5
          have h6 := HF.out.lines
          have h7 := decB_length 3 ps.length (by have := HF.out.len; omega)
          have h8 : word.length = 8 := rfl
          have h9 : ([10] : Bytes).length = 1 := rfl
          omega
        have HTl := Lib.hid hTl
        clear hTl
        go_wp2_with (fail)
        refine (parses_any _ (HE.out.chg0 C4.out) T (by have := HTl.out; omega)).mono ?_
        rintro e w5 ⟨rfl, hc5⟩
        have C5 := Lib.hid (C4.out.trans hc5 (fun _ f => f.elim))
        clear hc5
        go_wp2_with (fail)
        refine (edited_any _ T v2 es (H2.out.chg0 C5.out) HTl.out hl2).mono ?_
        rintro e w6 ⟨T2, rfl, hT2, hc6⟩
        have C6 := Lib.hid (C5.out.trans hc6 (fun _ f => f.elim))
        have HT2 := Lib.hid hT2
        clear hc6 hT2
        go_wp2_with (fail)
        refine (parses_any _ (HE.out.chg0 C6.out) T2 HT2.out).mono ?_
        rintro e w7 ⟨rfl, hc7⟩
        have C7 := Lib.hid (C6.out.trans hc7 (fun _ f => f.elim))
        clear hc7
        go_wp2_with (fail)
        go_ret
        exact ⟨rfl, C7.out⟩
      · have hcb : (c == 0) = false := by rw [beq_eq_false_iff_ne]; exact hc0
        have hcn : (c != 0) = true := by rw [bne_iff_ne]; exact hc0
        clear hc0
        go_wp2_with (fail)
        go_ret
        exact ⟨rfl, C4.out⟩
end Go.Proofs.YteejkkidnohcfaaDoor
