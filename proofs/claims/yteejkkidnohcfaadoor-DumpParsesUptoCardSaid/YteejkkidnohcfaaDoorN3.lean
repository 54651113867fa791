/- Walk: the document's Parse. -/
import Derived.Test.YteejkkidnohcfaaDoorN2
import Derived.Test.YteejkkidnohcfaaDoorM5
namespace Go.Proofs.YteejkkidnohcfaaDoor
open Go Go.RowKit Go.Maps

/-- What the document's Parse holds at a line's beginning. -/
def PState (w wr : World) (t : Bytes) (A : List PairB × Nat × Int) (no count : Int) (f : Nat) (lv : Value) : Prop :=
  (no = 0 ∧ f = 0 ∧ count = -1 ∧ lv = .slice none 0 0 ∧ A = parseB t) ∨
  ∃ (n : Nat) (acc : List PairB) (vs : List (Value × Value)), no = (acc.length : Int) + 1 ∧ count = (n : Int) ∧ n ≤ 2147483647 ∧ acc.length ≤ n ∧ acc.length ≤ f ∧ RowL w wr lv vs acc ∧ A = goB (n - acc.length) acc.length (t.drop f) (lastK acc acc.length) acc

theorem cut_here {t : Bytes} {f k : Nat} (h1 : f ≤ k) (hx : t[k]? = some 10) (hn : (10 : UInt8) ∉ (t.drop f).take (k - f)) : cutAt 10 (t.drop f) = some ((t.drop f).take (k - f), t.drop (k + 1)) := by
  have hk := (List.getElem?_eq_some_iff.1 hx).1
  have e : t.drop f = (t.drop f).take (k - f) ++ 10 :: t.drop (k + 1) := by
    have h2 : (t.drop f).drop (k - f) = 10 :: t.drop (k + 1) := by
      rw [List.drop_drop, show f + (k - f) = k by omega]
      obtain ⟨h3, h4⟩ := List.getElem?_eq_some_iff.1 hx
      rw [List.drop_eq_getElem_cons h3, h4]
    conv => lhs; rw [← List.take_append_drop (k - f) (t.drop f), h2]
  conv => lhs; rw [e]
  exact cutAt_append _ hn
theorem cut_nowhere {t : Bytes} {f : Nat} (hn : (10 : UInt8) ∉ (t.drop f).take (t.length - f)) : cutAt 10 (t.drop f) = none := by
  rw [List.take_of_length_le (by simp)] at hn
  exact cutAt_none.2 hn
theorem not_here {t : Bytes} {f k : Nat} {x : UInt8} (h1 : f ≤ k) (hx : t[k]? = some x) (hne : x ≠ 10) (hn : (10 : UInt8) ∉ (t.drop f).take (k - f)) : (10 : UInt8) ∉ (t.drop f).take (k + 1 - f) := by
  have h2 : (t.drop f)[k - f]? = some x := by rw [List.getElem?_drop, show f + (k - f) = k by omega]; exact hx
  rw [show k + 1 - f = (k - f) + 1 by omega, take_one h2]
  simp [hn, Ne.symm hne]
theorem lastK_snoc (acc : List PairB) (p : PairB) : lastK (acc ++ [p]) (acc ++ [p]).length = some p.1 := by
  unfold lastK
  rw [List.length_append, List.length_singleton, if_neg (by omega), Nat.add_sub_cancel, List.getElem?_append_right (Nat.le_refl _), Nat.sub_self]
  rfl
theorem ex_list (s : ByteArray) (a b : Nat) : (s.extract a b).data.toList = (s.data.toList.drop a).take (b - a) := by
  rw [ByteArray.data_extract, Array.toList_extract]
theorem ex_list' (s : ByteArray) (a b : Nat) : (s.extract a b).toList = (s.data.toList.drop a).take (b - a) := by
  rw [Lib.toList_data, ex_list]
theorem headN_short {line : Bytes} (h : line.length < 8) : headN line = none := by
  unfold headN
  rw [if_neg]
  intro e
  have := congrArg List.length e
  rw [List.length_take] at this
  have h2 : word.length = 8 := rfl
  omega
theorem pCells_pair (vs : List (Value × Value)) (a b : Value) : pCells (vs ++ [(a, b)]) = pCells vs ++ [a, b] := pCells_snoc vs (a, b)
theorem lineB_pair {line : Bytes} {last : Option Bytes} (h : (pairB line).2 ≠ 0) : (lineB line last).2 = (pairB line).2 := by
  cases last with
  | none => rfl
  | some m => rw [lineB_last, if_neg h]

set_option maxRecDepth 100000 in
set_option maxHeartbeats 16000000 in
theorem rparse_any (w : World) (s : ByteArray) (hs : s.size ≤ 134217728) :
    Calls Tryd.prog 39 #[.string s] w fun e w' => ParseAns w w' s.data.toList e ∧ Chg (fun _ => False) w w' := by
  obtain ⟨A, hA⟩ : ∃ A, A = parseB s.data.toList := ⟨_, rfl⟩
  have HA := Lib.hid hA
  have HL : Hid (s.data.toList.length = s.size) := Lib.hid (by simp)
  clear hA
  go_enter Tryd.func39, Tryd.ntmps39
  go_wp2_with fail
  go_loopg [5, 6, 7, 8] s.size (fun gm lv cv nv fv wr => ∃ (N C : Int) (f : Nat) (la : Option Addr) (ln lc : Nat), f ≤ s.size ∧ gm = s.size - f ∧ fv = .int .i64 f ∧ nv = .int .i64 N ∧ cv = .int .i64 C ∧ lv = .slice la ln lc ∧ PState w wr s.data.toList A N C f (.slice la ln lc) ∧ Chg (fun _ => False) w wr)
  case atStart => exact ⟨0, -1, 0, none, 0, 0, by omega, rfl, rfl, rfl, rfl, rfl, .inl ⟨rfl, rfl, rfl, rfl, HA.out⟩, Chg.refl _ _⟩
  case round =>
    obtain ⟨N, C, f, la, ln, lc, hf, hg, rfl, rfl, rfl, rfl, hst, hch⟩ := hrel
    have Hg := Lib.hid hg
    have HSt := Lib.hid hst
    have HCh := Lib.hid hch
    clear hg hst hch
    obtain ⟨wo, hwo⟩ : ∃ wo : World, wo = wr := ⟨_, rfl⟩
    subst hwo
    have hN0 : 0 ≤ N ∧ N ≤ 134217730 := by
      rcases HSt.out with ⟨h, _⟩ | ⟨n, acc, vs, h1, h2, h3, h4, h5, _⟩
      · omega
      · omega
    obtain ⟨hN0, hN1⟩ := hN0
    go_wp2_with fail
    go_loop [9] (fun tv => ∃ (k : Nat), f ≤ k ∧ k ≤ s.size ∧ tv = .int .i64 k ∧ (10 : UInt8) ∉ (s.data.toList.drop f).take (k - f)) (fun tv => s.size - (intOf tv).toNat)
    case atStart => exact ⟨f, Nat.le_refl _, hf, rfl, by simp⟩
    case round =>
      obtain ⟨k, hfk, hk, rfl, hno⟩ := hrel
      have HNo := Lib.hid hno
      clear hno
      by_cases hlt : k < s.size
      · have HG := Lib.hid (byte_get hlt)
        have hki : (k : Int) < (s.size : Int) := by omega
        have hk0 : (0 : Int) ≤ (k : Int) := by omega
        by_cases c1 : s[k]'hlt = 10
        · have c1b : ((((s[k]'hlt).toNat : Nat) : Int) != 10) = false := by rw [c1]; rfl
          have HX : Hid (s.data.toList[k]? = some 10) := Lib.hid (by rw [HG.out, c1])
          have HCut := Lib.hid (cut_here hfk HX.out HNo.out)
          have hke : ((k : Int) == (s.size : Int)) = false := by rw [beq_eq_false_iff_ne]; omega
          have hfki : (f : Int) ≤ (k : Int) := by omega
          have hf0 : (0 : Int) ≤ (f : Int) := by omega
          have hkl : (k : Int) ≤ (s.size : Int) := by omega
          clear c1
          rcases HSt.out with ⟨rfl, rfl, rfl, hlv, hAp⟩ | ⟨n, acc, vs, h1, h2, h3, h4, h5, h6, h7⟩
          · cases hlv
            have hline : (s.data.toList.drop 0).take (k - 0) = s.data.toList.take k := by simp
            rw [hline] at HCut
            have hll : (s.data.toList.take k).length = k := by rw [List.length_take, HL.out]; omega
            have HLl := Lib.hid hll
            have HPb : Hid (parseB s.data.toList = match headN (s.data.toList.take k) with | none => ([], 1, 200) | some n => goB n 0 (s.data.toList.drop (k + 1)) none []) := Lib.hid (by
              have h := HCut.out
              rw [List.drop_zero] at h
              unfold parseB
              rw [h]
              rfl)
            have HAp := Lib.hid hAp
            clear hline hAp hll
            by_cases hk8 : k < 8
            · have hk8i : (k : Int) < 8 := by omega
              have HB : Hid (parseB s.data.toList = ([], 1, 200)) := Lib.hid (by rw [HPb.out, headN_short (by rw [HLl.out]; exact hk8)])
              clear hk8
              go_wp2_with fail
              go_ret3
              exact ⟨⟨_, [], by rw [HB.out]; rfl, by rw [HB.out]; exact RowL.nil _ _⟩, HCh.out⟩
            · have hk8i : ¬ (k : Int) < 8 := by omega
              have hk8j : (8 : Int) ≤ (k : Int) := by omega
              have hx8 : ((s.extract 0 k).extract 0 8).toList = (s.data.toList.take k).take 8 := by rw [ex_list', ex_list]; simp
              by_cases hw : (s.data.toList.take k).take 8 = word
              · have hwb : (((s.extract 0 k).extract 0 8).toList == [99, 111, 112, 112, 105, 99, 101, 32]) = true := by rw [hx8, beq_iff_eq]; exact hw
                have HW := Lib.hid hw
                clear hw hx8 hk8
                go_wp2_with fail
                refine (rnumber_any _ _).mono ?_
                rintro e w3 ⟨rfl, rfl⟩
                have hnum : ((s.extract 0 k).extract 8 k).data.toList = (s.data.toList.take k).drop 8 := by
                  rw [ex_list, ex_list, List.take_of_length_le]
                  · simp
                  · simp; omega
                rw [hnum]
                cases hb : numB ((s.data.toList.take k).drop 8) with
                | none =>
                  have hI : numI ((s.data.toList.take k).drop 8) = -1 := by unfold numI; rw [hb]
                  have HB : Hid (parseB s.data.toList = ([], 1, 200)) := Lib.hid (by rw [HPb.out]; unfold headN; rw [if_pos HW.out, hb])
                  rw [hI]
                  clear hI hb hnum
                  go_wp2_with fail
                  go_ret3
                  exact ⟨⟨_, [], by rw [HB.out]; rfl, by rw [HB.out]; exact RowL.nil _ _⟩, HCh.out⟩
                | some n =>
                  have hI : numI ((s.data.toList.take k).drop 8) = (n : Int) := by unfold numI; rw [hb]
                  have hn1 := (numB_iff.1 hb).2
                  have HB : Hid (parseB s.data.toList = goB n 0 (s.data.toList.drop (k + 1)) none []) := Lib.hid (by rw [HPb.out]; unfold headN; rw [if_pos HW.out, hb])
                  have hn0 : ¬ (n : Int) < 0 := by omega
                  rw [hI]
                  clear hI hb hnum
                  go_wp2_with fail
                  go_roundg (s.size - (k + 1))
                  case measure => have := Hg.out; omega
                  case rel => exact ⟨1, n, k + 1, none, 0, 0, by omega, rfl, by go_num, rfl, rfl, rfl, .inr ⟨n, [], [], rfl, rfl, hn1, Nat.zero_le _, Nat.zero_le _, RowL.nil _ _, by rw [HAp.out, HB.out]; rfl⟩, HCh.out⟩
              · have hwb : (((s.extract 0 k).extract 0 8).toList == [99, 111, 112, 112, 105, 99, 101, 32]) = false := by rw [hx8, beq_eq_false_iff_ne]; exact hw
                have HB : Hid (parseB s.data.toList = ([], 1, 200)) := Lib.hid (by rw [HPb.out]; unfold headN; rw [if_neg hw])
                clear hw hx8 hk8
                go_wp2_with fail
                go_ret3
                exact ⟨⟨_, [], by rw [HB.out]; rfl, by rw [HB.out]; exact RowL.nil _ _⟩, HCh.out⟩
          · have hal : acc.length ≤ 134217728 := by omega
            obtain ⟨i, hi⟩ : ∃ i, i = acc.length := ⟨_, rfl⟩
            rw [← hi] at h1 h4 h5 h7 hal
            obtain ⟨ra, rc, er⟩ := h6.shape
            rw [← hi] at er
            cases er
            subst h1
            subst h2
            have HI := Lib.hid hi
            have HRow := Lib.hid h6
            have HA7 := Lib.hid h7
            obtain ⟨line, hline⟩ : ∃ line, line = (s.data.toList.drop f).take (k - f) := ⟨_, rfl⟩
            rw [← hline] at HCut
            have HLine : Hid ((s.extract f k).data.toList = line) := Lib.hid (by rw [ex_list, hline])
            have hls : (s.extract f k).size ≤ 268435456 := by rw [ByteArray.size_extract]; omega
            have hn1 : ((ln : Int) + 1 + 1 == 1) = false := by rw [beq_eq_false_iff_ne]; omega
            clear hi h6 h7 hline
            by_cases hin : ln = n
            · have hinb : ((ln : Int) == (n : Int)) = true := by rw [beq_iff_eq]; omega
              have HB : Hid (A = ([], ln + 2, 200)) := Lib.hid (by
                rw [HA7.out, hin, Nat.sub_self]
                unfold goB
                rw [if_neg]
                intro e
                have := HCut.out
                rw [e] at this
                cases this)
              clear hin
              go_wp2_with fail
              go_ret3
              exact ⟨⟨_, [], by rw [← HA.out, HB.out]; rfl, by rw [← HA.out, HB.out]; exact RowL.nil _ _⟩, HCh.out⟩
            · have hinb : ((ln : Int) == (n : Int)) = false := by rw [beq_eq_false_iff_ne]; omega
              obtain ⟨m, hm⟩ : ∃ m, n - ln = m + 1 := ⟨n - ln - 1, by omega⟩
              have HM := Lib.hid hm
              have hmn : ln + 1 ≤ n := by omega
              clear hm hin
              go_wp2_with fail
              refine (rpair_any _ _ (by omega)).mono ?_
              rintro e w5 ⟨⟨_, _, ⟨k1, k2, k3, rfl⟩, ⟨u1, u2, u3, rfl⟩, rfl, hgood⟩, hc5⟩
              rw [HLine.out] at hgood ⊢
              have HGood := Lib.hid hgood
              have C5 := Lib.hid hc5
              obtain ⟨c, hc⟩ : ∃ c, c = (pairB line).2 := ⟨_, rfl⟩
              rw [← hc]
              have HCc := Lib.hid hc
              have HStep : Hid (A = if (lineB line (lastK acc ln)).2 = 0 then goB m (ln + 1) (s.data.toList.drop (k + 1)) (some (pairB line).1.1) (acc ++ [(pairB line).1]) else ([], ln + 2, (lineB line (lastK acc ln)).2)) := Lib.hid (by
                rw [HA7.out, HM.out, ← lineB_fst line (lastK acc ln)]
                conv => lhs; unfold goB
                rw [HCut.out])
              clear hgood hc5 hc hn1 hinb hke c1b hN0 hN1
              by_cases hc0 : c = 0
              · subst hc0
                obtain ⟨gk, gu⟩ := HGood.out HCc.out.symm
                have GK := Lib.hid (gk.since (w0 := w) HCh.out.size)
                have GU := Lib.hid (gu.since (w0 := w) HCh.out.size)
                have hr5 := HRow.out.chg0 C5.out
                have HR5 := Lib.hid hr5
                have HO5 : Hid (w5.ownsRow 0 44 2 (.slice la ln lc) ln (pCells vs)) := Lib.hid (by have := hr5.row; rw [← HI.out] at this; exact this)
                clear gk gu hr5
                have hb6 : (w5.alloc (.cells #[.slice k1 k2 k3, .slice u1 u2 u3] 44)).heap[w5.heap.size]? = some (.cells #[.slice k1 k2 k3, .slice u1 u2 u3] 44) := heap_alloc_new w5 _
                obtain ⟨w6, hw6⟩ : ∃ w6, w6 = w5.alloc (.cells #[.slice k1 k2 k3, .slice u1 u2 u3] 44) := ⟨_, rfl⟩
                rw [← hw6] at hb6
                have C6 : Hid (Chg (fun _ => False) w5 w6) := Lib.hid (by rw [hw6]; exact (Chg.refl _ w5).alloc _)
                have x0 : w6.cell? ⟨w5.heap.size, 0, none⟩ = some (.slice k1 k2 k3) := by rw [Lib.cell_of_heap hb6]; rfl
                have x1 : w6.cell? ⟨w5.heap.size, 1, none⟩ = some (.slice u1 u2 u3) := by rw [Lib.cell_of_heap hb6]; rfl
                have HW6 := Lib.hid hw6
                clear hb6 hw6
                have HSize : Hid (s.size - (k + 1) < gk) := Lib.hid (by have := Hg.out; omega)
                have HEnd : Hid (∀ (nq : Nat) (g7 c7 : Nat) (w7 : World), (lineB line (lastK acc ln)).2 = 0 → w7.ownsRow 0 44 2 (.slice (some ⟨g7, 0, none⟩) (ln + 1) c7) (ln + 1) (pCells (vs ++ [(.slice k1 k2 k3, .slice u1 u2 u3)])) → Chg (fun x => (Value.slice la ln lc).ownBlock = some x) w6 w7 → ((Value.slice la ln lc).ownBlock = some g7 ∨ w6.heap.size ≤ g7) →
                    PState w w7 s.data.toList A ((ln : Int) + 1 + 1) (n : Int) (k + 1) (.slice (some ⟨g7, 0, none⟩) (ln + 1) c7) ∧ Chg (fun _ => False) w w7) := Lib.hid (fun _ g7 c7 w7 h0 hr7 hc7 hat7 => by
                  have hw5 : w.heap.size ≤ w6.heap.size := Nat.le_trans HCh.out.size (Nat.le_trans C5.out.size C6.out.size)
                  have hpush := (HR5.out.chg0 C6.out).push (v' := .slice (some ⟨g7, 0, none⟩) (acc.length + 1) c7) (p := (pairB line).1) (kv := .slice k1 k2 k3) (uv := .slice u1 u2 u3) (GK.out.chg0 C6.out) (GU.out.chg0 C6.out) ⟨_, _, rfl⟩ (by rw [← HI.out, ← pCells_pair]; exact hr7) hc7 (fun g e => by
                    simp only [Value.ownBlock, Option.some.injEq] at e
                    rcases hat7 with e2 | e2
                    · exact .inl (by rw [← e]; exact e2)
                    · right; omega)
                  refine ⟨.inr ⟨n, acc ++ [(pairB line).1], _, by rw [List.length_append, List.length_singleton, ← HI.out]; omega, rfl, h3, by rw [List.length_append, List.length_singleton, ← HI.out]; omega, by rw [List.length_append, List.length_singleton, ← HI.out]; omega, by rw [← HI.out] at hpush; exact hpush, ?_⟩, ?_⟩
                  · rw [HStep.out, if_pos h0, lastK_snoc, List.length_append, List.length_singleton, ← HI.out]
                    congr 1
                    have := HM.out; omega
                  · exact ((HCh.out.trans C5.out (fun _ f => f.elim)).trans C6.out (fun _ f => f.elim)).trans hc7 (fun x e => .inr (HRow.out.own x e)))
                by_cases hl0 : ln = 0
                · have hl0b : decide (0 < ln) = false := by simp; omega
                  have HL0 : Hid ((lineB line (lastK acc ln)).2 = 0) := Lib.hid (by rw [hl0]; exact HCc.out.symm)
                  clear hl0
                  go_wp2_with fail
                  rw [← HW6.out]
                  go_quiet (fail)
                  go_wp2_with
                    (at_builtin
                     refine list_pair (by rfl) _ _ (by rfl) (.slice la ln lc) ln vs (by rfl) (ownsRow_chg HO5.out ((C6.out.drewN _).alloc _) (fun _ _ f => f)) (.slice k1 k2 k3) (.slice u1 u2 u3) rfl rfl w6.heap.size (heap_alloc_new _ _) (by rfl) hal ?_
                     intro g7 c7 w7 hr7 hc7 hat7)
                  have h7 := HEnd.out 0 g7 c7 w7 HL0.out hr7 ((((Chg.refl _ w6).drewN _).alloc _).trans hc7 (fun _ h => Or.inl h)) (hat7.imp id (fun e => by have e2 : g7 = w6.heap.size + 1 := e.trans (Array.size_push _); omega))
                  have H7 := Lib.hid h7
                  clear h7 hr7 hc7 hat7
                  go_roundg (s.size - (k + 1))
                  case measure => exact HSize.out
                  case rel => exact ⟨(ln : Int) + 1 + 1, n, k + 1, some ⟨g7, 0, none⟩, ln + 1, c7, by omega, rfl, by go_num, rfl, rfl, rfl, H7.out.1, H7.out.2⟩
                · have hl0b : decide (0 < ln) = true := by simp; omega
                  obtain ⟨q, hq⟩ : ∃ q, acc[ln - 1]? = some q := ⟨_, List.getElem?_eq_getElem (by have := HI.out; omega)⟩
                  have HLk : Hid (lastK acc ln = some q.1) := Lib.hid (by unfold lastK; rw [if_neg hl0, hq]; rfl)
                  obtain ⟨j, hj⟩ : ∃ j, j = ln - 1 := ⟨_, rfl⟩
                  rw [← hj] at hq
                  have HJ : Hid (ln = j + 1) := Lib.hid (by omega)
                  have hSP := (HR5.out.chg0 C6.out).seesP
                  obtain ⟨_, _, e1, hnn, f1⟩ := hSP
                  rw [← HI.out] at e1
                  cases e1
                  cases la with
                  | none => exact absurd (by have h := hnn rfl; have h2 := HI.out; rw [h] at h2; exact h2) hl0
                  | some ad =>
                    obtain ⟨kv, uv, ck, cu, sk, su⟩ := f1 ad rfl j q hq
                    have SK := Lib.hid sk
                    obtain ⟨qa, qc, rfl, _, _⟩ := sk
                    have b5 : IntKind.i64.wrap ((ln : Int) - 1) = (j : Int) := by rw [IntKind.wrap_i64]; omega
                    have b6 : (0 : Int) ≤ (j : Int) := by omega
                    have b7 : (j : Int) < (ln : Int) := by omega
                    obtain ⟨bb, hbb⟩ : ∃ bb, bb = Op.bytesLess q.1 (pairB line).1.1 := ⟨_, rfl⟩
                    have HBB := Lib.hid hbb
                    have HLb : Hid ((lineB line (lastK acc ln)).2 = if bb = true then 0 else 30) := Lib.hid (by rw [HLk.out, lineB_last, if_pos HCc.out.symm, hbb])
                    have HLs : Hid (∀ nq, Calls Tryd.prog 40 #[.slice qa q.1.length qc, .slice k1 k2 k3] (w6.drewN nq) fun e w' => e = .returned (.bool bb) ∧ w' = w6.drewN nq) := Lib.hid (fun nq => by
                      have := less_any (w6.drewN nq) _ _ q.1 (pairB line).1.1 (SK.out.chg0 ((Chg.refl _ w6).drewN nq)) (((GK.out.chg0 C6.out).sees).chg0 ((Chg.refl _ w6).drewN nq))
                      rw [← hbb] at this
                      exact this.mono fun _ _ h => ⟨h.1, h.2.symm⟩)
                    clear hl0 hq hj hnn f1 hbb cu
                    cases bb with
                    | true =>
                      have HL0 : Hid ((lineB line (lastK acc ln)).2 = 0) := Lib.hid (by rw [HLb.out]; rfl)
                      go_wp2_with fail
                      rw [← HW6.out]
                      go_quiet ((go_at_call 40; exact Calls.quiet_of_same (HLs.out _)))
                      go_wp2_with
                        (at_builtin
                         refine list_pair (by rfl) _ _ (by rfl) (.slice (some ad) ln lc) ln vs (by rfl) (ownsRow_chg HO5.out ((C6.out.drewN _).alloc _) (fun _ _ f => f)) (.slice k1 k2 k3) (.slice u1 u2 u3) rfl rfl w6.heap.size (heap_alloc_new _ _) (by rfl) hal ?_
                         intro g7 c7 w7 hr7 hc7 hat7)
                      have h7 := HEnd.out 0 g7 c7 w7 HL0.out hr7 ((((Chg.refl _ w6).drewN _).alloc _).trans hc7 (fun _ h => Or.inl h)) (hat7.imp id (fun e => by have e2 : g7 = w6.heap.size + 1 := e.trans (Array.size_push _); omega))
                      have H7 := Lib.hid h7
                      clear h7 hr7 hc7 hat7
                      go_roundg (s.size - (k + 1))
                      case measure => exact HSize.out
                      case rel => exact ⟨(ln : Int) + 1 + 1, n, k + 1, some ⟨g7, 0, none⟩, ln + 1, c7, by omega, rfl, by go_num, rfl, rfl, rfl, H7.out.1, H7.out.2⟩
                    | false =>
                      have HB : Hid (A = ([], ln + 2, 30)) := Lib.hid (by rw [HStep.out, HLb.out]; rfl)
                      go_wp2_with fail
                      rw [← HW6.out]
                      go_quiet ((go_at_call 40; exact Calls.quiet_of_same (HLs.out _)))
                      go_wp2_with fail
                      go_ret3
                      refine ⟨⟨_, [], ?_, by rw [← HA.out, HB.out]; exact RowL.nil _ _⟩, ((HCh.out.trans C5.out (fun _ f => f.elim)).trans C6.out (fun _ f => f.elim)).drewN _⟩
                      rw [← HA.out, HB.out]
                      rfl
              · have hcb : (c == 0) = false := by rw [beq_eq_false_iff_ne]; exact hc0
                have HAe : Hid (A = ([], ln + 2, c)) := Lib.hid (by
                  have h1 : (lineB line (lastK acc ln)).2 = c := by rw [lineB_pair (by rw [← HCc.out]; exact hc0), HCc.out]
                  rw [HStep.out, h1, if_neg hc0])
                clear hc0
                go_wp2_with fail
                go_ret3
                refine ⟨⟨_, [], ?_, by rw [← HA.out, HAe.out]; exact RowL.nil _ _⟩, (HCh.out.trans C5.out (fun _ f => f.elim)).alloc _⟩
                rw [← HA.out, HAe.out]
                rfl
        · have c1b : ((((s[k]'hlt).toNat : Nat) : Int) != 10) = true := by
            rw [bne_iff_ne]
            intro e
            exact c1 (UInt8.toNat_inj.1 (by show _ = 10; omega))
          have HX : Hid (s[k]'hlt ≠ 10) := Lib.hid c1
          clear c1
          go_wp2_with fail
          go_round
          case rel => exact ⟨k + 1, by omega, by omega, by go_num, not_here hfk HG.out HX.out HNo.out⟩
          case measure => simp [intOf]; omega
      · have hkn : k = s.size := by omega
        subst hkn
        have HCut : Hid (cutAt 10 (s.data.toList.drop f) = none) := Lib.hid (cut_nowhere (by rw [HL.out]; exact HNo.out))
        rcases HSt.out with ⟨rfl, rfl, rfl, hlv, hAp⟩ | ⟨n, acc, vs, h1, h2, h3, h4, h5, h6, h7⟩
        · cases hlv
          have HB : Hid (parseB s.data.toList = ([], 1, 200)) := Lib.hid (by
            have h := HCut.out
            rw [List.drop_zero] at h
            unfold parseB
            rw [h])
          clear hAp
          by_cases h0 : s.size = 0
          · have h0b : ((0 : Int) == (s.size : Int)) = true := by rw [beq_iff_eq]; omega
            clear h0
            go_wp2_with fail
            go_ret3
            exact ⟨⟨_, [], by rw [HB.out]; rfl, by rw [HB.out]; exact RowL.nil _ _⟩, HCh.out⟩
          · have h0b : ((0 : Int) == (s.size : Int)) = false := by rw [beq_eq_false_iff_ne]; omega
            clear h0
            go_wp2_with fail
            go_ret3
            exact ⟨⟨_, [], by rw [HB.out]; rfl, by rw [HB.out]; exact RowL.nil _ _⟩, HCh.out⟩
        · obtain ⟨i, hi⟩ : ∃ i, i = acc.length := ⟨_, rfl⟩
          rw [← hi] at h1 h4 h5 h7
          obtain ⟨ra, rc, er⟩ := h6.shape
          rw [← hi] at er
          cases er
          subst h1
          subst h2
          have HI := Lib.hid hi
          have HRow := Lib.hid h6
          have HA7 := Lib.hid h7
          clear hi h6 h7 hN0 hN1
          by_cases hfs : f = s.size
          · have hfb : ((f : Int) == (s.size : Int)) = true := by rw [beq_iff_eq]; omega
            by_cases hin : ln = n
            · have hinb : ((n : Int) == (ln : Int)) = true := by rw [beq_iff_eq]; omega
              have HB : Hid (A = (acc, 0, 0)) := Lib.hid (by
                rw [HA7.out, hin, Nat.sub_self, hfs, List.drop_of_length_le (by rw [HL.out]; exact Nat.le_refl _)]
                rfl)
              clear hin hfs
              go_wp2_with fail
              go_ret3
              exact ⟨⟨.slice la ln lc, vs, by rw [← HA.out, HB.out]; rfl, by rw [← HA.out, HB.out]; exact HRow.out⟩, HCh.out⟩
            · have hinb : ((n : Int) == (ln : Int)) = false := by rw [beq_eq_false_iff_ne]; omega
              have HB : Hid (A = ([], ln + 2, 200)) := Lib.hid (by
                obtain ⟨m, hm⟩ : ∃ m, n - ln = m + 1 := ⟨n - ln - 1, by omega⟩
                rw [HA7.out, hm]
                unfold goB
                rw [HCut.out])
              clear hin hfs
              go_wp2_with fail
              go_ret3
              exact ⟨⟨_, [], by rw [← HA.out, HB.out]; rfl, by rw [← HA.out, HB.out]; exact RowL.nil _ _⟩, HCh.out⟩
          · have hfb : ((f : Int) == (s.size : Int)) = false := by rw [beq_eq_false_iff_ne]; omega
            have HB : Hid (A = ([], ln + 2, 200)) := Lib.hid (by
              rw [HA7.out]
              cases e : n - ln with
              | zero =>
                unfold goB
                rw [if_neg]
                intro e2
                have := congrArg List.length e2
                rw [List.length_drop, HL.out] at this
                simp at this; omega
              | succ m =>
                unfold goB
                rw [HCut.out])
            clear hfs
            go_wp2_with fail
            go_ret3
            exact ⟨⟨_, [], by rw [← HA.out, HB.out]; rfl, by rw [← HA.out, HB.out]; exact RowL.nil _ _⟩, HCh.out⟩
end Go.Proofs.YteejkkidnohcfaaDoor
