/- Walk: the law DumpTexts. (Printed by texts.py.) -/
import Derived.Test.YteejkkidnohcfaaDoorW22
import Derived.Test.YteejkkidnohcfaaDoorM6
import Derived.Deep.RegionLaw
namespace Go.Proofs.YteejkkidnohcfaaDoor
open Go Go.RowKit Go.Maps

theorem rtext_q (w : World) (v : Value) (ps : List PairB) (h : SeesP w v ps) (hs : SmallP ps) (T : ByteArray) (c : Int) (ht : textB ps = (T.data.toList, c)) :
    Calls Tryd.prog 20 #[v] w fun e w' => e = .returned (.tuple #[.string T, .int .i64 c]) ∧ Chg (fun _ => False) w w' := by
  refine (rtext_any w v ps h hs).mono ?_
  rintro e w' ⟨rfl, hc⟩
  rw [ht]
  exact ⟨rfl, hc⟩
theorem LentR.pair {w wr : World} {v : Value} {vs : List (Value × Value)} {ps : List PairB} (h : LentR w wr v vs ps) {k : Nat} {p : PairB} (hp : ps[k]? = some p) :
    ∃ g cap x g1 g2 c1 c2, v = .slice (some ⟨g, 0, none⟩) ps.length cap ∧ vs[k]? = some x ∧ wr.cell? ⟨g, k * 2, none⟩ = some (.slice (some ⟨g1, 0, none⟩) p.1.length c1) ∧ wr.cell? ⟨g, k * 2 + 1, none⟩ = some (.slice (some ⟨g2, 0, none⟩) p.2.length c2) ∧ x.1.ownBlock = some g1 ∧ x.2.ownBlock = some g2 ∧
      (∀ (j : Nat) (y : UInt8), p.1[j]? = some y → wr.cell? ⟨g1, j, none⟩ = some (.int .u8 (y.toNat : Int)) ∧ wr.frozen? ⟨g1, j, none⟩ = false) ∧ (∀ (j : Nat) (y : UInt8), p.2[j]? = some y → wr.cell? ⟨g2, j, none⟩ = some (.int .u8 (y.toNat : Int)) ∧ wr.frozen? ⟨g2, j, none⟩ = false) := by
  obtain ⟨⟨g, mc, gz, rfl, hmc', _, hrow, _⟩, hcore⟩ := h
  have hlt := (List.getElem?_eq_some_iff.1 hp).1
  obtain ⟨x, hx⟩ : ∃ x, vs[k]? = some x := ⟨_, List.getElem?_eq_getElem (by rw [hcore.len]; exact hlt)⟩
  obtain ⟨g1, g2, l1, l2, _⟩ := hcore.bytes k x p hx hp
  obtain ⟨d1, d2⟩ := pCells_get (vs ++ [(.slice (some ⟨gz, 0, none⟩) 1 1, .slice none 0 0)]) k x (by rw [List.getElem?_append_left (by rw [hcore.len]; exact hlt)]; exact hx)
  have d1' := hrow.cells rfl _ _ d1
  have d2' := hrow.cells rfl _ _ d2
  rw [addr_add, Nat.zero_add] at d1' d2'
  have f1 := fun j y (hy : p.1[j]? = some y) => And.intro (l1.cell hy) (l1.free j)
  have f2 := fun j y (hy : p.2[j]? = some y) => And.intro (l2.cell hy) (l2.free j)
  have o1 := l1.own
  have o2 := l2.own
  obtain ⟨c1, q1, hc1, _⟩ := l1
  obtain ⟨c2, q2, hc2, _⟩ := l2
  rw [q1] at d1'
  rw [q2] at d2'
  exact ⟨g, mc, x, g1, g2, c1, c2, rfl, hx, d1', d2', o1, o2, f1, f2⟩

set_option maxRecDepth 100000 in
set_option maxHeartbeats 8000000 in
theorem texts_law (w : World) (hE : Env w) (v : Value) (ps : List PairB) (h : SeesP w v ps) (hl : ps.length ≤ 9223372036854775807) (i at' x : Int) (hx0 : 0 ≤ x) (hx1 : x < 256) : Calls Tryd.prog 5 #[v, .int .i64 i, .int .i64 at', .int .u8 x] w fun e w' => e = .returned (.bool true) ∧ Chg (fun _ => False) w w' := by
  have HE := Lib.hid hE
  have H1 := Lib.hid h
  clear hE h
  obtain ⟨T, c, ht⟩ : ∃ (T : ByteArray) (c : Int), textB ps = (T.data.toList, c) := ⟨⟨(textB ps).1.toArray⟩, (textB ps).2, by simp⟩
  have HT := Lib.hid ht
  clear ht
  go_enter Tryd.func5, Tryd.ntmps5
  go_wp2_with (go_at_call 9; refine (first_any _ HE.out).mono ?_; rintro e w1 ⟨rfl, hc1⟩; have C1 := Lib.hid hc1; clear hc1)
  refine (few_any _ v ps (H1.out.chg0 C1.out) hl).mono ?_
  rintro e w2 ⟨b, rfl, hb, hc2⟩
  have C2 := Lib.hid (C1.out.trans hc2 (fun _ f => f.elim))
  clear hc2
  cases b with
  | false =>
    go_wp2_with (fail)
    go_ret
    exact ⟨rfl, C2.out⟩
  | true =>
    have HF := Lib.hid (hb rfl)
    clear hb
    have hln := HF.out.small.len
    go_wp2_with (fail)
    refine (lent_any _ v ps (H1.out.chg0 C2.out) HF.out.small).mono ?_
    rintro e w3 ⟨v3, vs, rfl, hL3, hc3⟩
    have C3 := Lib.hid (C2.out.trans hc3 (fun _ f => f.elim))
    have HL3 := Lib.hid hL3
    clear hc3 hL3
    go_wp2_with (fail)
    refine (text_q _ (HE.out.chg0 C3.out) v3 ps HL3.out.sees HF.out.small T c HT.out).mono ?_
    rintro e w4 ⟨rfl, hc4⟩
    have C4 := Lib.hid (C3.out.trans hc4 (fun _ f => f.elim))
    have HL4 := Lib.hid (HL3.out.chg0 hc4)
    clear hc4
    go_wp2_with (fail)
    refine (rtext_q _ v ps (H1.out.chg0 C4.out) HF.out.small T c HT.out).mono ?_
    rintro e w5 ⟨rfl, hc5⟩
    have C5 := Lib.hid (C4.out.trans hc5 (fun _ f => f.elim))
    have HL5 := Lib.hid (HL4.out.chg0 hc5)
    clear hc5
    go_wp2_with (fail)
    refine (stays_any _ _ v3 v vs ps HL5.out (H1.out.chg0 C5.out) HF.out.small).mono ?_
    rintro e w6 ⟨rfl, hc6⟩
    have C6 := Lib.hid (C5.out.trans hc6 (fun _ f => f.elim))
    have HL6 := Lib.hid (HL5.out.chg0 hc6)
    clear hc6
    obtain ⟨⟨g0, mc0, _, e0, _⟩, _⟩ := HL6.out
    by_cases hz : ps.length = 0
    · have hzi : (ps.length : Int) = 0 := by omega
      subst e0
      have HZ := Lib.hid hz
      clear hz
      go_wp2_with (go_at_call 15; refine (num_any _ _).mono ?_; rintro e w' ⟨rfl, rfl⟩)
      go_ret
      exact ⟨rfl, C6.out⟩
    · obtain ⟨j, hj, hJ⟩ := idx_of i ps.length (by omega) (by omega)
      have hzi : ¬ (ps.length : Int) = 0 := by omega
      obtain ⟨p, hp⟩ : ∃ p, ps[j]? = some p := ⟨_, List.getElem?_eq_getElem hj⟩
      have HPk := Lib.hid hp
      have HSm : Hid (p.1.length ≤ 16777216 ∧ p.2.length ≤ 16777216) := Lib.hid (HF.out.small.key p (List.mem_of_getElem? hp))
      obtain ⟨g, mc, xx, g1, g2, c1, c2, rfl, hxx, d1, d2, o1, o2, k1, k2⟩ := HL6.out.pair hp
      have HXx := Lib.hid hxx
      have O1 := Lib.hid o1
      have O2 := Lib.hid o2
      have K1 := Lib.hid k1
      have K2 := Lib.hid k2
      have hji : (j : Int) < (ps.length : Int) := by omega
      have hj0 : (0 : Int) ≤ (j : Int) := by omega
      clear e0 hz hp hxx o1 o2 k1 k2
      have hp1 := HSm.out.1
      have hp2 := HSm.out.2
      by_cases hv : 0 < p.2.length
      · have hvi : (0 : Int) < (p.2.length : Int) := by omega
        obtain ⟨j2, hj2, hJ2⟩ := idx_of at' p.2.length (by omega) (by omega)
        obtain ⟨y, hy⟩ : ∃ y, p.2[j2]? = some y := ⟨_, List.getElem?_eq_getElem hj2⟩
        obtain ⟨z, hz⟩ := xor_lo y hx0 hx1
        obtain ⟨x3, x4⟩ := K2.out j2 y hy
        have hJ3 : (IntKind.i64.wrap (at'.tmod (p.2.length : Int) + (p.2.length : Int))).tmod (p.2.length : Int) = (j2 : Int) := by have h := hJ2; unfold wrap64 at h; rw [IntKind.wrap_i64]; exact h
        have hn0 : ¬ (p.2.length : Int) = 0 := by omega
        have hne : ¬ p.2 = [] := fun e => by rw [e] at hj2; simp at hj2
        have hj2i : (j2 : Int) < (p.2.length : Int) := by omega
        have hj20 : (0 : Int) ≤ (j2 : Int) := by omega
        have HSet := Lib.hid (HL6.out.set (i := j) (j := j2) (g := g2) (p' := (p.1, p.2.set j2 z)) z HXx.out HPk.out (.inr ⟨O2.out, hj2, rfl⟩))
        have HSl : Hid (SmallP (ps.set j (p.1, p.2.set j2 z))) := Lib.hid (HF.out.small.set HPk.out (by simp) (by simp))
        clear hy hj2
        go_wp2_with (go_at_call 15; refine (num_any _ _).mono ?_; rintro e w' ⟨rfl, rfl⟩)
        go_region_law (fail)
        all_goals
          go_wp2_with fail
          have TS := Lib.hid HSl.out
          obtain ⟨T', c', ht'⟩ : ∃ (T : ByteArray) (c : Int), textB (ps.set j (p.1, p.2.set j2 z)) = (T.data.toList, c) := ⟨⟨(textB (ps.set j (p.1, p.2.set j2 z))).1.toArray⟩, (textB (ps.set j (p.1, p.2.set j2 z))).2, by simp⟩
          have HT' := Lib.hid ht'
          clear ht'
          have HLa := Lib.hid (HSet.out.1.chg0 ((Chg.refl (fun _ => False) _).drew))
          have CA := Lib.hid ((C6.out.setCell (p := ⟨g2, j2, none⟩) (Or.inr (Nat.le_trans C2.out.size HSet.out.2)) (bV z)).drew)
          refine (pairs_any _ _ (ps.set j (p.1, p.2.set j2 z)) HLa.out.sees TS.out).mono ?_
          rintro e w8 ⟨v8, vs8, rfl, hr8, hc8⟩
          have C8 := Lib.hid (CA.out.trans hc8 (fun _ f => f.elim))
          have HL8 := Lib.hid (HLa.out.chg0 hc8)
          have HR8 := Lib.hid hr8
          clear hc8 hr8
          go_wp2_with (fail)
          refine (text_q _ (HE.out.chg0 C8.out) _ (ps.set j (p.1, p.2.set j2 z)) HL8.out.sees TS.out T' c' HT'.out).mono ?_
          rintro e w9 ⟨rfl, hc9⟩
          have C9 := Lib.hid (C8.out.trans hc9 (fun _ f => f.elim))
          have HR9 := Lib.hid (HR8.out.chg0 hc9)
          clear hc9
          go_wp2_with (fail)
          refine (rtext_q _ v8 (ps.set j (p.1, p.2.set j2 z)) HR9.out.seesP TS.out T' c' HT'.out).mono ?_
          rintro e w10 ⟨rfl, hc10⟩
          have C10 := Lib.hid (C9.out.trans hc10 (fun _ f => f.elim))
          clear hc10
          go_wp2_with (go_at_call 15; refine (num_any _ _).mono ?_; rintro e w' ⟨rfl, rfl⟩)
          go_ret
          exact ⟨rfl, C10.out⟩
      · have hvi : ¬ (0 : Int) < (p.2.length : Int) := by omega
        by_cases hk : 0 < p.1.length
        · have hki : (0 : Int) < (p.1.length : Int) := by omega
          obtain ⟨j2, hj2, hJ2⟩ := idx_of at' p.1.length (by omega) (by omega)
          obtain ⟨y, hy⟩ : ∃ y, p.1[j2]? = some y := ⟨_, List.getElem?_eq_getElem hj2⟩
          obtain ⟨z, hz⟩ := xor_lo y hx0 hx1
          obtain ⟨x3, x4⟩ := K1.out j2 y hy
          have hJ3 : (IntKind.i64.wrap (at'.tmod (p.1.length : Int) + (p.1.length : Int))).tmod (p.1.length : Int) = (j2 : Int) := by have h := hJ2; unfold wrap64 at h; rw [IntKind.wrap_i64]; exact h
          have hn0 : ¬ (p.1.length : Int) = 0 := by omega
          have hne : ¬ p.1 = [] := fun e => by rw [e] at hj2; simp at hj2
          have hj2i : (j2 : Int) < (p.1.length : Int) := by omega
          have hj20 : (0 : Int) ≤ (j2 : Int) := by omega
          have HSet := Lib.hid (HL6.out.set (i := j) (j := j2) (g := g1) (p' := (p.1.set j2 z, p.2)) z HXx.out HPk.out (.inl ⟨O1.out, hj2, rfl⟩))
          have HSl : Hid (SmallP (ps.set j (p.1.set j2 z, p.2))) := Lib.hid (HF.out.small.set HPk.out (by simp) (by simp))
          clear hy hj2
          go_wp2_with (go_at_call 15; refine (num_any _ _).mono ?_; rintro e w' ⟨rfl, rfl⟩)
          go_region_law (fail)
          all_goals
            go_wp2_with fail
            have TS := Lib.hid HSl.out
            obtain ⟨T', c', ht'⟩ : ∃ (T : ByteArray) (c : Int), textB (ps.set j (p.1.set j2 z, p.2)) = (T.data.toList, c) := ⟨⟨(textB (ps.set j (p.1.set j2 z, p.2))).1.toArray⟩, (textB (ps.set j (p.1.set j2 z, p.2))).2, by simp⟩
            have HT' := Lib.hid ht'
            clear ht'
            have HLa := Lib.hid (HSet.out.1.chg0 ((Chg.refl (fun _ => False) _).drew))
            have CA := Lib.hid ((C6.out.setCell (p := ⟨g1, j2, none⟩) (Or.inr (Nat.le_trans C2.out.size HSet.out.2)) (bV z)).drew)
            refine (pairs_any _ _ (ps.set j (p.1.set j2 z, p.2)) HLa.out.sees TS.out).mono ?_
            rintro e w8 ⟨v8, vs8, rfl, hr8, hc8⟩
            have C8 := Lib.hid (CA.out.trans hc8 (fun _ f => f.elim))
            have HL8 := Lib.hid (HLa.out.chg0 hc8)
            have HR8 := Lib.hid hr8
            clear hc8 hr8
            go_wp2_with (fail)
            refine (text_q _ (HE.out.chg0 C8.out) _ (ps.set j (p.1.set j2 z, p.2)) HL8.out.sees TS.out T' c' HT'.out).mono ?_
            rintro e w9 ⟨rfl, hc9⟩
            have C9 := Lib.hid (C8.out.trans hc9 (fun _ f => f.elim))
            have HR9 := Lib.hid (HR8.out.chg0 hc9)
            clear hc9
            go_wp2_with (fail)
            refine (rtext_q _ v8 (ps.set j (p.1.set j2 z, p.2)) HR9.out.seesP TS.out T' c' HT'.out).mono ?_
            rintro e w10 ⟨rfl, hc10⟩
            have C10 := Lib.hid (C9.out.trans hc10 (fun _ f => f.elim))
            clear hc10
            go_wp2_with (go_at_call 15; refine (num_any _ _).mono ?_; rintro e w' ⟨rfl, rfl⟩)
            go_ret
            exact ⟨rfl, C10.out⟩
        · have hki : ¬ (0 : Int) < (p.1.length : Int) := by omega
          go_wp2_with (go_at_call 15; refine (num_any _ _).mono ?_; rintro e w' ⟨rfl, rfl⟩)
          have TS := Lib.hid HF.out.small
          obtain ⟨T', c', ht'⟩ : ∃ (T : ByteArray) (c : Int), textB (ps) = (T.data.toList, c) := ⟨⟨(textB (ps)).1.toArray⟩, (textB (ps)).2, by simp⟩
          have HT' := Lib.hid ht'
          clear ht'
          have HLa := Lib.hid HL6.out
          have CA := Lib.hid C6.out
          refine (pairs_any _ _ (ps) HLa.out.sees TS.out).mono ?_
          rintro e w8 ⟨v8, vs8, rfl, hr8, hc8⟩
          have C8 := Lib.hid (CA.out.trans hc8 (fun _ f => f.elim))
          have HL8 := Lib.hid (HLa.out.chg0 hc8)
          have HR8 := Lib.hid hr8
          clear hc8 hr8
          go_wp2_with (fail)
          refine (text_q _ (HE.out.chg0 C8.out) _ (ps) HL8.out.sees TS.out T' c' HT'.out).mono ?_
          rintro e w9 ⟨rfl, hc9⟩
          have C9 := Lib.hid (C8.out.trans hc9 (fun _ f => f.elim))
          have HR9 := Lib.hid (HR8.out.chg0 hc9)
          clear hc9
          go_wp2_with (fail)
          refine (rtext_q _ v8 (ps) HR9.out.seesP TS.out T' c' HT'.out).mono ?_
          rintro e w10 ⟨rfl, hc10⟩
          have C10 := Lib.hid (C9.out.trans hc10 (fun _ f => f.elim))
          clear hc10
          go_wp2_with (go_at_call 15; refine (num_any _ _).mono ?_; rintro e w' ⟨rfl, rfl⟩)
          go_ret
          exact ⟨rfl, C10.out⟩
end Go.Proofs.YteejkkidnohcfaaDoor
