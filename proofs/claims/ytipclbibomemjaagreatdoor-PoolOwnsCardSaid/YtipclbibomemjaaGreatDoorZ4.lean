/- Walks: the law PoolOwns. -/
import Derived.Great.BuildSlice
import Derived.Test.YtipclbibomemjaaGreatDoorZ3
import Derived.Test.YtipclbibomemjaaGreatDoorBKc
import Derived.Test.YtipclbibomemjaaGreatDoorQ6
namespace Go.Proofs.YtipclbibomemjaaGreatDoor
open Go Go.RowKit Go.Maps

def bookF0 (i : Nat) : Value := if i < 2 then .int .i64 0 else .slice none 0 0
def bookObj : Obj := .cells #[.int .i64 0, .int .i64 0, .slice none 0 0, .slice none 0 0, .slice none 0 0, .slice none 0 0, .slice none 0 0, .slice none 0 0, .slice none 0 0, .slice none 0 0, .slice none 0 0, .slice none 0 0, .slice none 0 0, .slice none 0 0, .slice none 0 0, .slice none 0 0, .slice none 0 0, .slice none 0 0, .slice none 0 0, .slice none 0 0, .slice none 0 0, .slice none 0 0, .slice none 0 0, .slice none 0 0, .slice none 0 0, .slice none 0 0, .slice none 0 0, .slice none 0 0, .slice none 0 0, .slice none 0 0, .slice none 0 0, .slice none 0 0, .slice none 0 0, .slice none 0 0, .slice none 0 0, .slice none 0 0, .slice none 0 0, .slice none 0 0, .slice none 0 0, .slice none 0 0, .slice none 0 0] 46
set_option maxRecDepth 100000 in
theorem built46 : Tryz.prog.built 46 [] = some #[.int .i64 0, .int .i64 0, .slice none 0 0, .slice none 0 0, .slice none 0 0, .slice none 0 0, .slice none 0 0, .slice none 0 0, .slice none 0 0, .slice none 0 0, .slice none 0 0, .slice none 0 0, .slice none 0 0, .slice none 0 0, .slice none 0 0, .slice none 0 0, .slice none 0 0, .slice none 0 0, .slice none 0 0, .slice none 0 0, .slice none 0 0, .slice none 0 0, .slice none 0 0, .slice none 0 0, .slice none 0 0, .slice none 0 0, .slice none 0 0, .slice none 0 0, .slice none 0 0, .slice none 0 0, .slice none 0 0, .slice none 0 0, .slice none 0 0, .slice none 0 0, .slice none 0 0, .slice none 0 0, .slice none 0 0, .slice none 0 0, .slice none 0 0, .slice none 0 0, .slice none 0 0] := by kernel_rfl
set_option maxRecDepth 100000 in
theorem own3_new {w0 w : World} {pb m1 m2 : Nat} {P : PS} (hp : PoolF w pb m1 m2 P) (hc : Chg (fun _ => False) w0 w) (hf : w0.heap.size ≤ pb ∧ w0.heap.size ≤ m1 ∧ w0.heap.size ≤ m2) : Own3 w0 (w.alloc bookObj) pb m1 m2 w.heap.size P 0 := by
  obtain ⟨l0, l1, l2⟩ := hp.lt
  have hk : Chg (fun _ => False) w (w.alloc bookObj) := (Chg.refl _ w).alloc _
  have hsz : (w.alloc bookObj).heap.size = w.heap.size + 1 := Array.size_push _
  refine ⟨fun g => if g = w.heap.size then some (0, 0) else none, bookF0, .slice none 0 0, .slice none 0 0, [], [], [], ⟨⟨#[.int .i64 0, .int .i64 0, .slice none 0 0, .slice none 0 0, .slice none 0 0, .slice none 0 0, .slice none 0 0, .slice none 0 0, .slice none 0 0, .slice none 0 0, .slice none 0 0, .slice none 0 0, .slice none 0 0, .slice none 0 0, .slice none 0 0, .slice none 0 0, .slice none 0 0, .slice none 0 0, .slice none 0 0, .slice none 0 0, .slice none 0 0, .slice none 0 0, .slice none 0 0, .slice none 0 0, .slice none 0 0, .slice none 0 0, .slice none 0 0, .slice none 0 0, .slice none 0 0, .slice none 0 0, .slice none 0 0, .slice none 0 0, .slice none 0 0, .slice none 0 0, .slice none 0 0, .slice none 0 0, .slice none 0 0, .slice none 0 0, .slice none 0 0, .slice none 0 0, .slice none 0 0], bk_new w _, rfl, fun i hi => ?_⟩, by simp, fun g r e => ?_⟩, fun i h1 h2 _ _ => ?_, rfl, rfl, rfl, rfl, intsKept.nil _ _, Nat.le_refl _, (fun x hx => by cases hx), hp.chg0 hk, ?_, ?_, ?_, fun g r e => ?_, hf, hc.alloc _⟩
  · match i, hi with
    | 0, _ => rfl
    | 1, _ => rfl
    | 2, _ => rfl
    | 3, _ => rfl
    | 4, _ => rfl
    | 5, _ => rfl
    | 6, _ => rfl
    | 7, _ => rfl
    | 8, _ => rfl
    | 9, _ => rfl
    | 10, _ => rfl
    | 11, _ => rfl
    | 12, _ => rfl
    | 13, _ => rfl
    | 14, _ => rfl
    | 15, _ => rfl
    | 16, _ => rfl
    | 17, _ => rfl
    | 18, _ => rfl
    | 19, _ => rfl
    | 20, _ => rfl
    | 21, _ => rfl
    | 22, _ => rfl
    | 23, _ => rfl
    | 24, _ => rfl
    | 25, _ => rfl
    | 26, _ => rfl
    | 27, _ => rfl
    | 28, _ => rfl
    | 29, _ => rfl
    | 30, _ => rfl
    | 31, _ => rfl
    | 32, _ => rfl
    | 33, _ => rfl
    | 34, _ => rfl
    | 35, _ => rfl
    | 36, _ => rfl
    | 37, _ => rfl
    | 38, _ => rfl
    | 39, _ => rfl
    | 40, _ => rfl
    | (n + 41), h => exact absurd h (by omega)
  · split at e
    · rw [hsz]; omega
    · cases e
  · unfold bookF0; rw [if_neg (by omega)]
  · rw [if_neg (by omega)]
  · rw [if_neg (by omega)]
  · rw [if_neg (by omega)]
  · split at e
    · have := hc.size; omega
    · cases e

set_option maxRecDepth 100000 in
theorem owns_few (w : World) (count cap : Int) (v2 v3 : Value) (free : List Int) (h : SeesI w v2 free) (hno : fitsB cap free.length = false) :
    Calls Tryz.prog 3 #[.int .i64 count, .int .i64 cap, v2, v3] w (TrueB w) := by
  obtain ⟨a2, c2, rfl⟩ := h.slice
  have HF := Lib.hid hno
  clear h hno
  go_enter Tryz.func3, Tryz.ntmps3
  go_wp2_with (first
    | (go_at_call 4; refine (first_any _).mono ?_; rintro e wa ⟨rfl, ba⟩; have BA := Lib.hid ba; clear ba)
    | (go_at_call 5; refine (fits_any _ _ _ _ _).mono ?_; rintro e wa ⟨rfl, rfl⟩; rw [HF.out]))
  go_ret
  exact TrueB.mk BA.out
set_option maxRecDepth 100000 in
theorem owns_long (w : World) (count cap : Int) (v2 v3 : Value) (free : List Int) (h : SeesI w v2 free) (hf : fitsB cap free.length = true) (hl : 60 < free.length) :
    Calls Tryz.prog 3 #[.int .i64 count, .int .i64 cap, v2, v3] w (TrueB w) := by
  obtain ⟨a2, c2, rfl⟩ := h.slice
  have HF := Lib.hid hf
  have hl2 : (60 : Int) < (free.length : Int) := by omega
  clear h hf
  go_enter Tryz.func3, Tryz.ntmps3
  go_wp2_with (first
    | (go_at_call 4; refine (first_any _).mono ?_; rintro e wa ⟨rfl, ba⟩; have BA := Lib.hid ba; clear ba)
    | (go_at_call 5; refine (fits_any _ _ _ _ _).mono ?_; rintro e wa ⟨rfl, rfl⟩; rw [HF.out]))
  go_ret
  exact TrueB.mk BA.out
set_option maxRecDepth 100000 in
theorem owns_none (w : World) (count cap : Int) (v2 v3 : Value) (free : List Int) (h : SeesI w v2 free) (hf : fitsB cap free.length = true) (hl : ¬ 60 < free.length) (hno : ¬ newOk count cap free) :
    Calls Tryz.prog 3 #[.int .i64 count, .int .i64 cap, v2, v3] w (TrueB w) := by
  have HS := Lib.hid h
  obtain ⟨a2, c2, rfl⟩ := h.slice
  have HF := Lib.hid hf
  have HNo := Lib.hid hno
  have hl2 : ¬ (60 : Int) < (free.length : Int) := by omega
  have hl6 : free.length ≤ 1000000 := by omega
  have hl9 : free.length ≤ 9223372036854775807 := by omega
  clear h hf hl hno
  go_enter Tryz.func3, Tryz.ntmps3
  go_wp2_with (first
    | (go_at_call 4; refine (first_any _).mono ?_; rintro e wa ⟨rfl, ba⟩; have BA : Hid (Chg (fun _ => False) w wa) := Lib.hid ⟨ba.os, ba.tape, ba.output, ba.size, fun k hk _ => ba.block k hk⟩; clear ba)
    | (go_at_call 5; refine (fits_any _ _ _ _ _).mono ?_; rintro e wa ⟨rfl, rfl⟩; rw [HF.out])
    | fail)
  refine (ints_any wa _ free (HS.out.chg0 BA.out) hl6).mono ?_
  rintro e wb ⟨g1, c1, rfl, hN1, hc1⟩
  have HN1 := Lib.hid hN1
  have HC1 := Lib.hid (BA.out.trans hc1 (fun _ f => f.elim))
  clear hN1 hc1
  go_wp2_with fail
  refine (new_no wb _ free HN1.out.sees count cap hl9 HNo.out).mono ?_
  rintro e _ ⟨rfl, rfl⟩
  go_wp2_with fail
  refine (rnew_no wb _ free (HS.out.chg0 HC1.out) count cap hl6 HNo.out).mono ?_
  rintro e wc ⟨rfl, hc2⟩
  have HC2 := Lib.hid (HC1.out.trans hc2 (fun _ f => f.elim))
  clear hc2
  go_wp2_with fail
  go_ret
  exact TrueB.mk (HC2.out.toBelow (fun _ f => f.elim))

set_option maxRecDepth 100000 in
set_option maxHeartbeats 16000000 in
theorem owns_go (w : World) (count cap : Int) (v2 v3 : Value) (free : List Int) (os : List OpD) (h : SeesI w v2 free) (hs : OpsA w v3 os) (hol : os.length ≤ 9223372036854775807) (hf : fitsB cap free.length = true) (hl : ¬ 60 < free.length) (hyes : newOk count cap free) :
    Calls Tryz.prog 3 #[.int .i64 count, .int .i64 cap, v2, v3] w (TrueB w) := by
  have HS := Lib.hid h
  obtain ⟨a2, c2, rfl⟩ := h.slice
  obtain ⟨a4, c4, rfl, hcells⟩ := hs
  have HCells := Lib.hid hcells
  have HF := Lib.hid hf
  have HY := Lib.hid hyes
  have hl2 : ¬ (60 : Int) < (free.length : Int) := by omega
  have hl6 : free.length ≤ 1000000 := by omega
  clear h hf hl hyes hcells
  go_enter Tryz.func3, Tryz.ntmps3
  go_wp2_with (first
    | (go_at_call 4; refine (first_any _).mono ?_; rintro e wa ⟨rfl, ba⟩; have BA : Hid (Chg (fun _ => False) w wa) := Lib.hid ⟨ba.os, ba.tape, ba.output, ba.size, fun k hk _ => ba.block k hk⟩; clear ba)
    | (go_at_call 5; refine (fits_any _ _ _ _ _).mono ?_; rintro e wa ⟨rfl, rfl⟩; rw [HF.out])
    | fail)
  refine (ints_any wa _ free (HS.out.chg0 BA.out) hl6).mono ?_
  rintro e wb ⟨g1, c1, rfl, hN1, hc1⟩
  have HN1 := Lib.hid hN1
  have HC1 := Lib.hid (BA.out.trans hc1 (fun _ f => f.elim))
  clear hN1 hc1
  go_wp2_with fail
  refine (new_yes wb _ free HN1.out.sees count cap hl6 HY.out).mono ?_
  rintro e wc ⟨pb, m1, m2, rfl, hp, hc, n0, n1, n2⟩
  have hO := own3_new (w0 := w) hp (HC1.out.trans hc (fun _ f => f.elim)) (by have := HC1.out.size; omega)
  unfold bookObj at hO
  have HO := Lib.hid hO
  clear hp hc n0 n1 n2 hO HN1 HC1 BA
  go_wp2_with (refine wpList_buildTo (by rfl) 46 #[] (by rfl) (some 49) (by rfl) #[.int .i64 0, .int .i64 0, .slice none 0 0, .slice none 0 0, .slice none 0 0, .slice none 0 0, .slice none 0 0, .slice none 0 0, .slice none 0 0, .slice none 0 0, .slice none 0 0, .slice none 0 0, .slice none 0 0, .slice none 0 0, .slice none 0 0, .slice none 0 0, .slice none 0 0, .slice none 0 0, .slice none 0 0, .slice none 0 0, .slice none 0 0, .slice none 0 0, .slice none 0 0, .slice none 0 0, .slice none 0 0, .slice none 0 0, .slice none 0 0, .slice none 0 0, .slice none 0 0, .slice none 0 0, .slice none 0 0, .slice none 0 0, .slice none 0 0, .slice none 0 0, .slice none 0 0, .slice none 0 0, .slice none 0 0, .slice none 0 0, .slice none 0 0, .slice none 0 0, .slice none 0 0] (by simpa using built46) ?_)
  obtain ⟨bb, hbb⟩ : ∃ bb, bb = wc.heap.size := ⟨_, rfl⟩
  rw [← hbb] at HO
  try rw [← hbb]
  generalize wc.alloc _ = wd at HO ⊢
  clear hbb
  go_loopg [12] os.length (fun gm iv wr => ∃ (k : Nat) (P : PS), k ≤ os.length ∧ k ≤ 30 ∧ gm = os.length - k ∧ iv = .int .i64 k ∧ P.fit k ∧ Own3 w wr pb m1 m2 bb P (5 * k))
  case atStart => exact ⟨0, PS.new count cap free, by omega, by omega, rfl, rfl, new_fit HY.out, HO.out⟩
  case round =>
    clear HO
    obtain ⟨k, P, hk, hk30, hg, rfl, hfit, hO⟩ := hrel
    have Hg := Lib.hid hg
    have HO := Lib.hid hO
    have HFit := Lib.hid hfit
    have Hok := Lib.hid (hfit.small (show k < 1000000 by omega))
    clear hg hfit hO
    by_cases hlt : k < os.length ∧ k < 30
    · obtain ⟨hlt, hlt2⟩ := hlt
      obtain ⟨o, ho⟩ : ∃ o, os[k]? = some o := ⟨_, List.getElem?_eq_getElem hlt⟩
      obtain ⟨g, off, e, hcs⟩ := HCells.out (by omega)
      subst e
      obtain ⟨ga, gc, q0, q1, q2, q3, q4, qs, qo⟩ := hcs k o ho
      have hch := HO.out.chg
      have c0 := hch.get_cell q0 (fun f => f)
      have c1 := hch.get_cell q1 (fun f => f)
      have c2 := hch.get_cell q2 (fun f => f)
      have c3 := hch.get_cell q3 (fun f => f)
      have c4 := hch.get_cell q4 (fun f => f)
      have QS := Lib.hid (qs.chg0 hch)
      have QO := Lib.hid qo
      have hki : (k : Int) < (os.length : Int) := by omega
      have hki2 : (k : Int) < 30 := by omega
      have hk0 : (0 : Int) ≤ (k : Int) := by omega
      clear q0 q1 q2 q3 q4 qs qo hcs ho hch
      by_cases hs1 : 60 < o.gone.length
      · have hs2 : (60 : Int) < (o.gone.length : Int) := by omega
        go_wp2_with fail
        go_roundg (os.length - (k + 1))
        case measure => have := Hg.out; omega
        case rel => exact ⟨k + 1, P, by omega, by omega, rfl, by go_num, HFit.out.mono (Nat.le_succ k), (HO.out.chg0 ((Chg.refl _ wr).alloc _)).mono (by omega)⟩
      · have hs2 : ¬ (60 : Int) < (o.gone.length : Int) := by omega
        by_cases hs3 : 100 < o.a
        · go_wp2_with fail
          go_roundg (os.length - (k + 1))
          case measure => have := Hg.out; omega
          case rel => exact ⟨k + 1, P, by omega, by omega, rfl, by go_num, HFit.out.mono (Nat.le_succ k), (HO.out.chg0 ((Chg.refl _ wr).alloc _)).mono (by omega)⟩
        · go_upto_block 2 with fail
          refine own_call (HO.out.chg0 ((Chg.refl _ wr).alloc _)) HFit.out (by omega) (by omega) (ob := wr.heap.size) (o := o) (ga := ga) (gc := gc) ⟨bk_new wr _, QS.out.chg0 ((Chg.refl _ wr).alloc _), (by have := HO.out.pool.lt; omega)⟩ QO.out (by omega) ?_
          intro u14 u15 u76 u77 u78 u79 u80 u81 u82 u83 u84 u85 u86 u87 u88 u89 u90 u91 u92 u93 u94 u95 u96 u97 u98 u99 u100 u101 u102 u103 u104 w5 h5
          have HO5 := Lib.hid h5
          have HFit5 := Lib.hid (does_fit HFit.out o.kind o.a o.b o.gone QO.out.b)
          clear h5 c0 c1 c2 c3 c4
          go_upto_block 3 with fail
          refine own_twice HO5.out (HFit5.out.small (by omega)) (by omega) ?_
          intro u16 u105 u106 u107 u108 u109 u110 u111 u112 u113 u114 u115 u116 w6 h6
          have HO6 := Lib.hid h6
          clear h6
          go_wp2_with fail
          go_roundg (os.length - (k + 1))
          case measure => have := Hg.out; omega
          case rel => exact ⟨k + 1, _, by omega, by omega, rfl, by go_num, HFit5.out, HO6.out.mono (by omega)⟩
    · have hk5 : 5 * k ≤ 150 := by omega
      obtain ⟨fs, hfs⟩ : ∃ fs, nums P.free = fs := ⟨_, rfl⟩
      obtain ⟨ul, hul⟩ : ∃ ul, nums P.usable = ul := ⟨_, rfl⟩
      have hfl : fs.length ≤ 1000000 := by rw [← hfs]; exact (lens_small Hok.out.ok).1
      have hull : ul.length ≤ 1000000 := by rw [← hul]; exact (lens_small Hok.out.ok).2
      have hfl9 : fs.length ≤ 9223372036854775807 := by omega
      have hul9 : ul.length ≤ 9223372036854775807 := by omega
      have HFs := Lib.hid hfs
      have HUs := Lib.hid hul
      obtain ⟨own, F, rv, wv, xs, ws, cc, hB⟩ := HO.out
      have HB := Lib.hid hB
      have HLt : Hid (∀ g r, own g = some r → g < wr.heap.size) := Lib.hid hB.book.lt
      clear hB hfs hul
      by_cases hlt1 : k < os.length
      all_goals
        first
          | (have hki : (k : Int) < (os.length : Int) := by omega
             have hki2 : ¬ (k : Int) < 30 := by omega
             clear hlt hlt1)
          | (have hki : ¬ (k : Int) < (os.length : Int) := by omega
             clear hlt hlt1)
        go_wp2_with fail
        refine (free_p HB.out.pool Hok.out HFs.out).mono ?_
        rintro e wa ⟨a5, c5, rfl, hN, hc⟩
        have HA := Lib.hid (HB.out.work (hc.mono (fun _ f => f.elim)) (HB.out.pool.chg0 hc))
        have HNa := Lib.hid hN.sees
        have HSa := Lib.hid hc.size
        clear hN hc
        go_wp2_with fail
        refine (ints_any wa _ fs HNa.out hfl).mono ?_
        rintro e wb ⟨g6, c6, rfl, hN, hc⟩
        have HBb := Lib.hid (HA.out.work (hc.mono (fun _ f => f.elim)) (HA.out.pool.chg0 hc))
        have HFb := Lib.hid hN.sees
        have HNo6 : Hid (own g6 = none) := Lib.hid (by
          cases e2 : own g6 with
          | none => rfl
          | some r => have h1 := HLt.out g6 r e2; have h2 := hN.2 g6 rfl; have h3 := HSa.out; omega)
        have HSb := Lib.hid hc.size
        clear hN hc
        go_wp2_with fail
        refine (usable_p HBb.out.pool Hok.out HUs.out).mono ?_
        rintro e wc ⟨a7, c7, rfl, hN, hc⟩
        have HBc := Lib.hid (HBb.out.work (hc.mono (fun _ f => f.elim)) (HBb.out.pool.chg0 hc))
        have HFc := Lib.hid (HFb.out.chg0 hc)
        have HNc := Lib.hid hN.sees
        have HSc := Lib.hid hc.size
        clear hN hc
        go_wp2_with fail
        refine (ints_any wc _ ul HNc.out hull).mono ?_
        rintro e wd ⟨g8, c8, rfl, hN, hc⟩
        have HBd := Lib.hid (HBc.out.work (hc.mono (fun _ f => f.elim)) (HBc.out.pool.chg0 hc))
        have HFd := Lib.hid (HFc.out.chg0 hc)
        have HUd := Lib.hid hN.sees
        have HNo8 : Hid (own g8 = none) := Lib.hid (by
          cases e2 : own g8 with
          | none => rfl
          | some r => have h1 := HLt.out g8 r e2; have h2 := hN.2 g8 rfl; have h3 := HSa.out; have h4 := HSb.out; have h5 := HSc.out; omega)
        clear hN hc
        go_wp2_with fail
        refine (finish_any wd own bb F HBd.out.book HBd.out.nils HBd.out.f0 HBd.out.f1 rv wv xs ws cc HBd.out.frv HBd.out.fwv HBd.out.kept (by have := HBd.out.len; omega) (fun bs h => by have := HBd.out.sz bs h; omega)).mono ?_
        rintro e we ⟨rfl, hc⟩
        have HPe := Lib.hid (HBd.out.pool.chg hc (fun ⟨r, e⟩ => by rw [HBd.out.n0] at e; cases e) (fun ⟨r, e⟩ => by rw [HBd.out.n1] at e; cases e) (fun ⟨r, e⟩ => by rw [HBd.out.n2] at e; cases e))
        have HFe := Lib.hid (HFd.out.chg hc (fun ad n c e _ ⟨r, e2⟩ => by cases e; have h := HNo6.out; rw [e2] at h; cases h))
        have HUe := Lib.hid (HUd.out.chg hc (fun ad n c e _ ⟨r, e2⟩ => by cases e; have h := HNo8.out; rw [e2] at h; cases h))
        have HCe : Hid (Chg (fun _ => False) w we) := Lib.hid (HBd.out.chg.trans hc (fun x ⟨r, e⟩ => .inr (HBd.out.far x r e)))
        clear hc
        go_wp2_with fail
        refine (free_p HPe.out Hok.out HFs.out).mono ?_
        rintro e wf ⟨a9, c9, rfl, hN, hc⟩
        have HPf := Lib.hid (HPe.out.chg0 hc)
        have HXf := Lib.hid hN.sees
        have HFf := Lib.hid (HFe.out.chg0 hc)
        have HUf := Lib.hid (HUe.out.chg0 hc)
        have HCf := Lib.hid (HCe.out.trans hc (fun _ f => f.elim))
        clear hN hc
        go_wp2_with fail
        refine (usable_p HPf.out Hok.out HUs.out).mono ?_
        rintro e wg ⟨a10, c10, rfl, hN, hc⟩
        have HYg := Lib.hid hN.sees
        have HXg := Lib.hid (HXf.out.chg0 hc)
        have HFg := Lib.hid (HFf.out.chg0 hc)
        have HUg := Lib.hid (HUf.out.chg0 hc)
        have HCg := Lib.hid (HCf.out.trans hc (fun _ f => f.elim))
        clear hN hc
        go_wp2_with fail
        refine (sameI_yes wg _ _ fs HXg.out HFg.out hfl9).mono ?_
        rintro e wh ⟨rfl, hc⟩
        have HYh := Lib.hid (HYg.out.chg0 hc)
        have HUh := Lib.hid (HUg.out.chg0 hc)
        have HCh := Lib.hid (HCg.out.trans hc (fun _ f => f.elim))
        clear hc
        go_wp2_with fail
        refine (sameI_yes wh _ _ ul HYh.out HUh.out hul9).mono ?_
        rintro e wi ⟨rfl, hc⟩
        have HCi := Lib.hid (HCh.out.trans hc (fun _ f => f.elim))
        clear hc
        go_wp2_with fail
        go_ret
        exact TrueB.mk (HCi.out.toBelow (fun _ f => f.elim))

theorem owns_law (w : World) (count cap : Int) (v2 v3 : Value) (free : List Int) (os : List OpD) (h : SeesI w v2 free) (hs : OpsA w v3 os) (hol : os.length ≤ 9223372036854775807) :
    Calls Tryz.prog 3 #[.int .i64 count, .int .i64 cap, v2, v3] w (TrueB w) := by
  cases hf : fitsB cap free.length with
  | false => exact owns_few w count cap v2 v3 free h hf
  | true =>
    by_cases hl : 60 < free.length
    · exact owns_long w count cap v2 v3 free h hf hl
    · by_cases hy : newOk count cap free
      · exact owns_go w count cap v2 v3 free os h hs hol hf hl hy
      · exact owns_none w count cap v2 v3 free h hf hl hy
end Go.Proofs.YtipclbibomemjaaGreatDoor
