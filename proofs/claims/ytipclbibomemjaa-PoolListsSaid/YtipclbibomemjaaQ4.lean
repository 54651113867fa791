/- Walks: the law PoolLists, at a pool. -/
import Derived.Test.YtipclbibomemjaaQ3
namespace Go.Proofs.Ytipclbibomemjaa
open Go Go.RowKit Go.Maps

/-- What the law looks at behind the loop. -/
theorem ListsOk.int {n m : Nat} {d : Int} {f : Nat} (h : ListsOk n m d f) (hd : 0 ≤ d) (hn : n ≤ 4000) (hm : m ≤ 4000) (hf : f ≤ 8000) :
    ¬ (((n : Int) + m + 1020) / 1021 < f) ∧ ¬ (1021 * (f : Int) < (n : Int) - min (n : Int) (min d 1099511627776 + f) + m) ∧ (¬ (f : Int) = 0 → 1021 * ((f : Int) - 1) < (n : Int) - min (n : Int) (min d 1099511627776 + f - 1) + m) :=
  ⟨by have := h.most; omega, by have := h.fits; omega, fun e => h.less.resolve_left (by omega)⟩

set_option maxRecDepth 100000 in
set_option maxHeartbeats 8000000 in
theorem lists_go (w : World) (count cap d : Int) (v2 v3 : Value) (free gone : List Int) (h2 : SeesI w v2 free) (h3 : SeesI w v3 gone) (hwf : ∀ x ∈ gone, (Lit.int .i64 x).wf = true) (hf : fitsB cap free.length = true) (hg : gone.length ≤ 4000) (hyes : newOk count cap free)
    {B : Bool} {r : Int} (hB : fineB count free gone d = B) (hr : (PS.new count cap free).lists d gone = r) (hno : B = false → r = -1) (hyess : B = true → 0 ≤ d ∧ ∃ f : Nat, r = f ∧ f ≤ 8000 ∧ ListsOk free.length gone.length d f) :
    Calls Try.prog 6 #[.int .i64 count, .int .i64 cap, v2, v3, .int .i64 d] w fun e w' => e = .returned (.bool true) ∧ Below w.heap.size w w' := by
  have H2 := Lib.hid h2
  have H3 := Lib.hid h3
  have HWF := Lib.hid hwf
  obtain ⟨a2, c2, rfl⟩ := h2.slice
  obtain ⟨a3, c3, rfl⟩ := h3.slice
  have hl : ¬ (4000 : Int) < (gone.length : Int) := by omega
  have hl9 : gone.length ≤ 1000000 := by omega
  have hfl : free.length ≤ 4000 := (of_decide_eq_true hf).2
  have hfl2 : free.length ≤ 1000000 := by omega
  have hfl3 : free.length ≤ 9223372036854775807 := by omega
  have HF := Lib.hid hf
  have HY := Lib.hid hyes
  have HR := Lib.hid hr
  have HNo := Lib.hid hno
  have HYes := Lib.hid hyess
  have HFold : Hid (gone.foldl (fineStep count free) (decide (0 ≤ d) && riseL gone) = B) := Lib.hid (by rw [fold_fine]; exact hB)
  obtain ⟨b0, hb0⟩ : ∃ b0, (decide (0 ≤ d) && riseL gone) = b0 := ⟨_, rfl⟩
  rw [hb0] at HFold
  have hb1 : d < 0 ∧ b0 = false ∨ 0 ≤ d ∧ riseL gone = b0 := by
    rcases (by omega : d < 0 ∨ 0 ≤ d) with e | e
    · left; exact ⟨e, by rw [← hb0, decide_eq_false (by omega)]; rfl⟩
    · right; exact ⟨e, by rw [← hb0, decide_eq_true e]; rfl⟩
  have HB1 : Hid (0 ≤ d → riseL gone = b0) := Lib.hid (fun e => by rcases hb1 with h | h; omega; exact h.2)
  have HB2 : Hid (d < 0 → b0 = false) := Lib.hid (fun e => by rcases hb1 with h | h; exact h.2; omega)
  clear hf hyes hg h2 h3 hwf hr hno hyess hB hb0 hb1
  by_cases hd : 0 ≤ d
  all_goals
    first
      | (have HB3 := Lib.hid (HB1.out hd))
      | (obtain rfl := HB2.out (by omega))
    clear HB1 HB2
    go_enter Try.func6, Try.ntmps6
    go_wp2_with (first
      | (go_at_call 7; refine (first_any _).mono ?_; rintro e wa ⟨rfl, ba⟩; have BA := Lib.hid ba; clear ba)
      | (go_at_call 10; refine (fits_any _ _ _ _ _).mono ?_; rintro e wa ⟨rfl, rfl⟩; rw [HF.out])
      | fail)
    refine (ints_any _ _ free (H2.out.under BA.out) hfl2).mono ?_
    rintro e wb ⟨gb, cb, rfl, hN, hc⟩
    have HS := Lib.hid hN.sees
    have BB : Hid (Chg (fun _ => False) w wb) := Lib.hid ((show Chg (fun _ => False) w wa from ⟨BA.out.os, BA.out.tape, BA.out.output, BA.out.size, fun k hk _ => BA.out.block k hk⟩).trans hc (fun _ f => f.elim))
    clear hN hc
    go_wp2_with fail
    refine (new_yes _ _ free HS.out _ _ hfl2 HY.out).mono ?_
    rintro e wc ⟨pb, m1, m2, rfl, hp, hc, g0, g1, g2⟩
    have S3 : Hid (Pl w wc pb m1 m2 (PS.new count cap free)) := Lib.hid ⟨hp, BB.out.trans hc (fun _ f => f.elim), by have := BB.out.size; omega, by have := BB.out.size; omega, by have := BB.out.size; omega⟩
    clear hp hc g0 g1 g2 BB HS
    go_wp2_with fail
    refine (ints_any _ _ gone (H3.out.chg0 S3.out.chg) hl9).mono ?_
    rintro e wd ⟨gd, cd, rfl, hN, hc⟩
    have S4 := Lib.hid (S3.out.other0 hc)
    have HS := Lib.hid hN.sees
    clear hN hc S3
    go_wp2_with fail
    refine (lists_pl S4.out (new_ok HY.out) d HS.out hl9 HWF.out HR.out).mono ?_
    rintro e we ⟨rfl, s5, _⟩
    have S5 := Lib.hid s5
    clear s5 S4 HS
    go_wp2_with (first
      | (go_at_call 16; refine (riseL_any _ _ gone (H3.out.chg0 S5.out.chg) hl9).mono ?_; rintro e wf ⟨rfl, hc⟩; rw [HB3.out]; have S6 := Lib.hid (S5.out.other0 hc); clear hc)
      | fail)
    first
      | (have _ := S6)
      | (have S6 := Lib.hid S5.out)
    have HC6 := Lib.hid S6.out.chg
    clear S5
    go_loopg [14, 15] gone.length (fun gm fv iv wr => ∃ (k : Nat) (b : Bool), k ≤ gone.length ∧ gm = gone.length - k ∧ iv = .int .i64 k ∧ fv = .bool b ∧ Chg (fun _ => False) w wr ∧ (gone.drop k).foldl (fineStep count free) b = B)
    case atStart => exact ⟨0, _, by omega, rfl, rfl, rfl, HC6.out, HFold.out⟩
    case round =>
      obtain ⟨k, b, hk, hg, rfl, rfl, hch, hfk⟩ := hrel
      have Hg := Lib.hid hg
      have HCh := Lib.hid hch
      have HFk := Lib.hid hfk
      clear hg hfk
      by_cases hlt : k < gone.length
      · obtain ⟨x, hx⟩ : ∃ x, gone[k]? = some x := ⟨_, List.getElem?_eq_getElem hlt⟩
        have HX := Lib.hid hx
        obtain ⟨ad, rfl⟩ : ∃ ad, a3 = some ad := by
          obtain ⟨a4, c4, e4, h4, _⟩ := H3.out
          cases e4
          cases a3 with
          | none => have := h4 rfl; subst this; simp at hlt
          | some ad => exact ⟨ad, rfl⟩
        have cx : wr.cell? (ad.add k) = some (.int .i64 x) := by
          obtain ⟨a4, c4, e4, _, h4⟩ := H3.out.chg0 hch
          cases e4
          exact h4 ad rfl k x hx
        have hki : (k : Int) < (gone.length : Int) := by omega
        have hk0 : (0 : Int) ≤ (k : Int) := by omega
        obtain ⟨hh, hhe⟩ : ∃ hh, hasK free x = hh := ⟨_, rfl⟩
        have HH := Lib.hid hhe
        clear hx hch hhe
        cases b with
        | false =>
          go_wp2_with (first
            | (go_at_call 17; refine (has_any _ _ free (H2.out.chg0 HCh.out) x hfl3).mono ?_; rintro e ww ⟨rfl, rfl⟩; rw [HH.out])
            | go_in)
          go_roundg (gone.length - (k + 1))
          case measure => have := Hg.out; omega
          case rel => exact ⟨k + 1, _, by omega, rfl, by go_num, rfl, HCh.out, by rw [← HFk.out]; exact drop_foldl HX.out (by unfold fineStep; rw [HH.out]; rfl)⟩
        | true =>
          cases hh with
          | true =>
            go_wp2_with (first
              | (go_at_call 17; refine (has_any _ _ free (H2.out.chg0 HCh.out) x hfl3).mono ?_; rintro e ww ⟨rfl, rfl⟩; rw [HH.out])
              | go_in)
            go_roundg (gone.length - (k + 1))
            case measure => have := Hg.out; omega
            case rel => exact ⟨k + 1, _, by omega, rfl, by go_num, rfl, HCh.out, by rw [← HFk.out]; exact drop_foldl HX.out (by unfold fineStep; rw [HH.out]; rfl)⟩
          | false =>
            by_cases t1 : 2 ≤ x
            · by_cases t2 : x < count
              · have HS : Hid (fineStep count free true x = true) := Lib.hid (by unfold fineStep; rw [HH.out, decide_eq_true t1, decide_eq_true t2]; rfl)
                go_wp2_with (first
                  | (go_at_call 17; refine (has_any _ _ free (H2.out.chg0 HCh.out) x hfl3).mono ?_; rintro e ww ⟨rfl, rfl⟩; rw [HH.out])
                  | go_in)
                go_roundg (gone.length - (k + 1))
                case measure => have := Hg.out; omega
                case rel => exact ⟨k + 1, _, by omega, rfl, by go_num, rfl, HCh.out, by rw [← HFk.out]; exact drop_foldl HX.out HS.out⟩
              · have HS : Hid (fineStep count free true x = false) := Lib.hid (by unfold fineStep; rw [HH.out, decide_eq_true t1, decide_eq_false t2]; rfl)
                go_wp2_with (first
                  | (go_at_call 17; refine (has_any _ _ free (H2.out.chg0 HCh.out) x hfl3).mono ?_; rintro e ww ⟨rfl, rfl⟩; rw [HH.out])
                  | go_in)
                go_roundg (gone.length - (k + 1))
                case measure => have := Hg.out; omega
                case rel => exact ⟨k + 1, _, by omega, rfl, by go_num, rfl, HCh.out, by rw [← HFk.out]; exact drop_foldl HX.out (HS.out.trans (decide_eq_false (by omega)).symm)⟩
            · have HS : Hid (fineStep count free true x = false) := Lib.hid (by unfold fineStep; rw [HH.out, decide_eq_false t1]; rfl)
              go_wp2_with (first
                | (go_at_call 17; refine (has_any _ _ free (H2.out.chg0 HCh.out) x hfl3).mono ?_; rintro e ww ⟨rfl, rfl⟩; rw [HH.out])
                | go_in)
              go_roundg (gone.length - (k + 1))
              case measure => have := Hg.out; omega
              case rel => exact ⟨k + 1, _, by omega, rfl, by go_num, rfl, HCh.out, by rw [← HFk.out]; exact drop_foldl HX.out HS.out⟩
      · have HBk : Hid (b = B) := Lib.hid (by have := HFk.out; rw [List.drop_eq_nil_of_le (by omega)] at this; exact this)
        clear HFk HFold
        cases b with
        | false =>
          have hr1 : Hid (r = -1) := Lib.hid (HNo.out HBk.out.symm)
          obtain ⟨r', rfl⟩ : ∃ r', r = r' := ⟨_, rfl⟩
          have hr2 : (r == -1) = true := beq_iff_eq.2 hr1.out
          go_wp2_with fail
          go_ret
          exact ⟨rfl, HCh.out.toBelow (fun _ f => f.elim)⟩
        | true =>
          obtain ⟨hd0, f, hrf, hf8, hok⟩ := HYes.out HBk.out.symm
          obtain rfl := hrf
          obtain ⟨q1, q2, q3⟩ := hok.int hd0 (by omega) (by omega) hf8
          clear hok
          by_cases hf0 : (f : Int) = 0
          · have hf1 : ((f : Int) == 0) = true := beq_iff_eq.2 hf0
            have hf2 : f ≤ 0 := by omega
            clear q3 hf0
            go_wp2_with fail
            all_goals
              go_ret
              exact ⟨rfl, HCh.out.toBelow (fun _ f => f.elim)⟩
          · have hf1 : ((f : Int) == 0) = false := beq_eq_false_iff_ne.2 hf0
            have q4 := q3 hf0
            clear q3
            go_wp2_with fail
            all_goals
              go_ret
              exact ⟨rfl, HCh.out.toBelow (fun _ f => f.elim)⟩
end Go.Proofs.Ytipclbibomemjaa
