/- Walk: the law DumpOwns. -/
import Derived.Great.BuildSlice
import Derived.Test.YteejkkidnohcfaaGreatDoorOW1
import Derived.Test.YteejkkidnohcfaaGreatDoorW13
import Derived.Test.YteejkkidnohcfaaGreatDoorW22
import Derived.Test.YteejkkidnohcfaaGreatDoorW3
import Derived.Test.YteejkkidnohcfaaGreatDoorW5
namespace Go.Proofs.YteejkkidnohcfaaGreatDoor
open Go Go.RowKit Go.Maps

def bookF0 (i : Nat) : Value := if i < 2 then .int .i64 0 else .slice none 0 0
def bookObj : Obj := .cells #[.int .i64 0, .int .i64 0, .slice none 0 0, .slice none 0 0, .slice none 0 0, .slice none 0 0, .slice none 0 0, .slice none 0 0, .slice none 0 0, .slice none 0 0, .slice none 0 0, .slice none 0 0, .slice none 0 0, .slice none 0 0, .slice none 0 0, .slice none 0 0, .slice none 0 0, .slice none 0 0, .slice none 0 0, .slice none 0 0, .slice none 0 0, .slice none 0 0, .slice none 0 0, .slice none 0 0, .slice none 0 0, .slice none 0 0, .slice none 0 0, .slice none 0 0, .slice none 0 0, .slice none 0 0, .slice none 0 0, .slice none 0 0, .slice none 0 0, .slice none 0 0, .slice none 0 0, .slice none 0 0, .slice none 0 0, .slice none 0 0, .slice none 0 0, .slice none 0 0, .slice none 0 0] 42
set_option maxRecDepth 100000 in
theorem built42 : Tryz.prog.built 42 [] = some #[.int .i64 0, .int .i64 0, .slice none 0 0, .slice none 0 0, .slice none 0 0, .slice none 0 0, .slice none 0 0, .slice none 0 0, .slice none 0 0, .slice none 0 0, .slice none 0 0, .slice none 0 0, .slice none 0 0, .slice none 0 0, .slice none 0 0, .slice none 0 0, .slice none 0 0, .slice none 0 0, .slice none 0 0, .slice none 0 0, .slice none 0 0, .slice none 0 0, .slice none 0 0, .slice none 0 0, .slice none 0 0, .slice none 0 0, .slice none 0 0, .slice none 0 0, .slice none 0 0, .slice none 0 0, .slice none 0 0, .slice none 0 0, .slice none 0 0, .slice none 0 0, .slice none 0 0, .slice none 0 0, .slice none 0 0, .slice none 0 0, .slice none 0 0, .slice none 0 0, .slice none 0 0] := by kernel_rfl
set_option maxRecDepth 100000 in
theorem own_new {w0 w : World} (h4 : 4 ≤ w0.heap.size) (hc : Chg (fun _ => False) w0 w) : OwnD w0 (w.alloc bookObj) w.heap.size 0 0 := by
  have hsz : (w.alloc bookObj).heap.size = w.heap.size + 1 := Array.size_push _
  have hge : ∀ g (r : Nat × Nat), (if g = w.heap.size then some ((0, 0) : Nat × Nat) else none) = some r → g = w.heap.size := fun g r e => by
    split at e
    · assumption
    · cases e
  refine ⟨fun g => if g = w.heap.size then some (0, 0) else none, bookF0, .slice none 0 0, .slice none 0 0, [], [], [], .slice none 0 0, .slice none 0 0, [], [], [], ⟨⟨⟨#[.int .i64 0, .int .i64 0, .slice none 0 0, .slice none 0 0, .slice none 0 0, .slice none 0 0, .slice none 0 0, .slice none 0 0, .slice none 0 0, .slice none 0 0, .slice none 0 0, .slice none 0 0, .slice none 0 0, .slice none 0 0, .slice none 0 0, .slice none 0 0, .slice none 0 0, .slice none 0 0, .slice none 0 0, .slice none 0 0, .slice none 0 0, .slice none 0 0, .slice none 0 0, .slice none 0 0, .slice none 0 0, .slice none 0 0, .slice none 0 0, .slice none 0 0, .slice none 0 0, .slice none 0 0, .slice none 0 0, .slice none 0 0, .slice none 0 0, .slice none 0 0, .slice none 0 0, .slice none 0 0, .slice none 0 0, .slice none 0 0, .slice none 0 0, .slice none 0 0, .slice none 0 0], bk_new w _, rfl, fun i hi => ?_⟩, by simp, fun g r e => by have := hge g r e; omega⟩, fun i h1 h2 _ _ _ _ => ?_, rfl, rfl, rfl, rfl, rfl, rfl, bytesKept.nil _ _, PKept.nil _ _, (by simp), (by simp), (fun x hx => by cases hx), (fun x hx => by cases hx), fun g r e => ?_⟩, Nat.le_refl _, Nat.le_refl _, fun g r e => ?_, hc.alloc _⟩
  · match i, hi with
    | 0, _ => rfl
    | 1, _ => rfl
    | 2, _ => rfl
    | 3, _ => rfl
    | 4, _ => rfl
    | 5, _ => rfl
    | 6, _ => rfl
    | 7, _ => rfl
    | 8, _ => rfl
    | 9, _ => rfl
    | 10, _ => rfl
    | 11, _ => rfl
    | 12, _ => rfl
    | 13, _ => rfl
    | 14, _ => rfl
    | 15, _ => rfl
    | 16, _ => rfl
    | 17, _ => rfl
    | 18, _ => rfl
    | 19, _ => rfl
    | 20, _ => rfl
    | 21, _ => rfl
    | 22, _ => rfl
    | 23, _ => rfl
    | 24, _ => rfl
    | 25, _ => rfl
    | 26, _ => rfl
    | 27, _ => rfl
    | 28, _ => rfl
    | 29, _ => rfl
    | 30, _ => rfl
    | 31, _ => rfl
    | 32, _ => rfl
    | 33, _ => rfl
    | 34, _ => rfl
    | 35, _ => rfl
    | 36, _ => rfl
    | 37, _ => rfl
    | 38, _ => rfl
    | 39, _ => rfl
    | 40, _ => rfl
    | (n + 41), h => exact absurd h (by omega)
  · unfold bookF0; rw [if_neg (by omega)]
  · have := hge g r e; have := hc.size; omega
  · have := hge g r e; have := hc.size; omega
theorem finish_own {w0 w : World} (hE : Env w) {b nb np : Nat} (h : OwnD w0 w b nb np) : Calls Tryz.prog 14 #[.pointer (some ⟨b, 0, none⟩)] w fun e w' => e = .returned (.bool true) ∧ Chg (fun _ => False) w0 w' := by
  obtain ⟨own, F, rvb, wvb, xsb, wsb, ccb, rv, wv, xs, ws, cc, hB, a1, a2, a3, a4⟩ := h
  refine (finish_any w hE own b F rvb wvb xsb wsb ccb rv wv xs ws cc hB).mono ?_
  rintro e w' ⟨rfl, hc⟩
  exact ⟨rfl, a4.trans hc (fun x ⟨r, e⟩ => .inr (a3 x r e))⟩

set_option maxRecDepth 100000 in
set_option maxHeartbeats 4000000 in
theorem owns_long (w : World) (hE : Env w) (v : Value) (ps : List PairB) (h : SeesP w v ps) (hl : 60 < ps.length) : Calls Tryz.prog 3 #[v] w fun e w' => e = .returned (.bool true) ∧ Chg (fun _ => False) w w' := by
  have HE := Lib.hid hE
  obtain ⟨a, c, rfl, _⟩ := h
  have hl2 : (60 : Int) < (ps.length : Int) := by omega
  clear hE hl
  go_enter Tryz.func3, Tryz.ntmps3
  go_wp2_with (go_at_call 4; refine (first_any _ HE.out).mono ?_; rintro e w1 ⟨rfl, hc1⟩; have C1 := Lib.hid hc1; clear hc1)
  go_ret
  exact ⟨rfl, C1.out⟩

set_option maxRecDepth 100000 in
set_option maxHeartbeats 16000000 in
theorem owns_go (w : World) (hE : Env w) (v : Value) (ps : List PairB) (h : SeesP w v ps) (hl : ¬ 60 < ps.length) : Calls Tryz.prog 3 #[v] w fun e w' => e = .returned (.bool true) ∧ Chg (fun _ => False) w w' := by
  have HE := Lib.hid hE
  have HP := Lib.hid h
  have h4 : 4 ≤ w.heap.size := hE.lt
  obtain ⟨a, c, rfl, hn, _⟩ := h
  have Hn := Lib.hid hn
  have hl2 : ¬ (60 : Int) < (ps.length : Int) := by omega
  have hl60 : ps.length ≤ 60 := by omega
  have hl9 : ps.length ≤ 9223372036854775807 := by omega
  obtain ⟨T, cd, ht⟩ : ∃ (T : ByteArray) (cd : Int), textB ps = (T.data.toList, cd) := ⟨⟨(textB ps).1.toArray⟩, (textB ps).2, by simp⟩
  have HT := Lib.hid ht
  clear hE hl hn ht
  go_enter Tryz.func3, Tryz.ntmps3
  go_wp2_with (go_at_call 4; refine (first_any _ HE.out).mono ?_; rintro e w1 ⟨rfl, hc1⟩; have C1 := Lib.hid hc1; clear hc1)
  refine (few_any _ _ ps (HP.out.chg0 C1.out) hl9).mono ?_
  rintro e w2 ⟨b, rfl, hb, hc2⟩
  have C2 := Lib.hid (C1.out.trans hc2 (fun _ f => f.elim))
  clear hc2
  cases b with
  | false =>
    go_wp2_with (fail)
    go_ret
    exact ⟨rfl, C2.out⟩
  | true =>
    have HF1 := Lib.hid (hb rfl)
    clear hb
    go_wp2_with (fail)
    refine (rtext_any _ _ ps (HP.out.chg0 C2.out) HF1.out.small).mono ?_
    rintro e w3 ⟨rfl, hc3⟩
    have C3 := Lib.hid (C2.out.trans hc3 (fun _ f => f.elim))
    clear hc3
    rw [HT.out]
    by_cases hcd : cd = 0
    · subst hcd
      have HPt : Hid (parseB T.data.toList = (ps, 0, 0)) := Lib.hid (parse_text HT.out (by omega))
      have HTl : Hid (T.size ≤ 134217728) := Lib.hid (few_text HF1.out HT.out)
      go_wp2_with (refine wpList_buildTo (by rfl) 42 #[] (by rfl) (some 36) (by rfl) #[.int .i64 0, .int .i64 0, .slice none 0 0, .slice none 0 0, .slice none 0 0, .slice none 0 0, .slice none 0 0, .slice none 0 0, .slice none 0 0, .slice none 0 0, .slice none 0 0, .slice none 0 0, .slice none 0 0, .slice none 0 0, .slice none 0 0, .slice none 0 0, .slice none 0 0, .slice none 0 0, .slice none 0 0, .slice none 0 0, .slice none 0 0, .slice none 0 0, .slice none 0 0, .slice none 0 0, .slice none 0 0, .slice none 0 0, .slice none 0 0, .slice none 0 0, .slice none 0 0, .slice none 0 0, .slice none 0 0, .slice none 0 0, .slice none 0 0, .slice none 0 0, .slice none 0 0, .slice none 0 0, .slice none 0 0, .slice none 0 0, .slice none 0 0, .slice none 0 0, .slice none 0 0] (by simpa using built42) ?_)
      have hO := own_new (w0 := w) h4 C3.out
      unfold bookObj at hO
      have HO := Lib.hid hO
      clear hO
      obtain ⟨bb, hbb⟩ : ∃ bb, bb = w3.heap.size := ⟨_, rfl⟩
      rw [← hbb] at HO
      try rw [← hbb]
      generalize w3.alloc _ = wd at HO ⊢
      clear hbb
      go_loopg [7] 2 (fun gm iv wr => ∃ (i : Nat), i ≤ 2 ∧ gm = 2 - i ∧ iv = .int .i64 i ∧ OwnD w wr bb (180 * i) i)
      case atStart => exact ⟨0, by omega, rfl, rfl, HO.out⟩
      case round =>
        clear HO
        obtain ⟨i, hi, hgm, rfl, hO⟩ := hrel
        have Hg := Lib.hid hgm
        have HO := Lib.hid hO
        clear hgm hO
        by_cases hlt : i < 2
        · have hii : (i : Int) < 2 := by omega
          go_wp2_with fail
          refine (parse_any wr (HE.out.chg0 HO.out.chg) T HTl.out).mono ?_
          rintro e w5 ⟨⟨v5, vs5, rfl, hr5, hap5⟩, hc5⟩
          rw [HPt.out] at hr5 ⊢
          obtain ⟨a5, c5, rfl⟩ := hr5.shape
          have HR5 := Lib.hid hr5
          have HAp5 := Lib.hid hap5
          have HC5 := Lib.hid hc5
          have HCw := Lib.hid (HO.out.chg.trans hc5 (fun _ f => f.elim))
          clear hr5 hap5 hc5
          go_wp2_with fail
          refine (samePairs_any w5 _ _ ps ps HR5.out.seesP (HP.out.chg0 HCw.out) hl9).mono ?_
          rintro e w6 ⟨rfl, hc6⟩
          rw [decide_eq_true rfl]
          have HC6 := Lib.hid hc6
          clear hc6
          go_wp2_with (first
            | (go_at_call 9; refine (num_any _ _).mono ?_; rintro e ww ⟨rfl, rfl⟩)
            | fail)
          refine (keepP HO.out h4 (by omega) (by omega) (HC5.out.trans HC6.out (fun _ f => f.elim)) (HR5.out.chg0 HC6.out) HAp5.out (by omega) HF1.out.small).mono ?_
          rintro e w7 ⟨rfl, hO7⟩
          have HO7 := Lib.hid hO7
          clear hO7
          go_wp2_with fail
          go_loopg [12] ps.length (fun gm jv wq => ∃ (j : Nat), j ≤ ps.length ∧ gm = ps.length - j ∧ jv = .int .i64 j ∧ OwnD w wq bb (180 * i + 2 * ps.length + j) (i + 1))
          case atStart => exact ⟨0, by omega, rfl, rfl, HO7.out⟩
          case round =>
            clear HO7
            obtain ⟨j, hj, hgm2, rfl, hOq⟩ := hrel
            have Hg2 := Lib.hid hgm2
            have HOq := Lib.hid hOq
            clear hgm2 hOq
            by_cases hjl : j < ps.length
            · obtain ⟨p, hp⟩ : ∃ p, ps[j]? = some p := ⟨_, List.getElem?_eq_getElem hjl⟩
              have hjj : (j : Int) < (ps.length : Int) := by omega
              have hj0 : (0 : Int) ≤ (j : Int) := by omega
              have hkey := HF1.out.small.key p (List.mem_of_getElem? hp)
              cases a with
              | none => have := Hn.out rfl; subst this; simp at hjl
              | some ad =>
                obtain ⟨_, _, e1, _, f1⟩ := HP.out.chg0 HOq.out.chg
                cases e1
                obtain ⟨kv, uv, ck, cu, sk, su⟩ := f1 ad rfl j p hp
                have cu' : wr.cell? ⟨(ad.add (j * 2)).block, (ad.add (j * 2)).off + 1, none⟩ = some uv := by
                  have h3 : wr.cell? ((ad.add (j * 2)).add 1) = some uv := by rw [add_add]; exact cu
                  exact h3
                have SU := Lib.hid su
                obtain ⟨ua, uc, rfl, _, _⟩ := su
                clear cu ck sk f1 hp
                go_wp2_with fail
                refine (rhex_any _ _ p.2 SU.out (by omega)).mono ?_
                rintro e w8 ⟨rfl, hc8⟩
                have HC8 := Lib.hid hc8
                obtain ⟨S, hS⟩ : ∃ S : ByteArray, S = ⟨(hexB p.2).toArray⟩ := ⟨_, rfl⟩
                have hSl : S.data.toList = hexB p.2 := by rw [hS]
                have hSs : S.size ≤ 1073741824 := by
                  have h1 : S.size = (hexB p.2).length := by rw [← hSl]; simp
                  rw [h1]; unfold hexB
                  split
                  · simp
                  · rw [hexs_length]; omega
                rw [← hS]
                have HSl := Lib.hid hSl
                clear hc8 hS hSl cu'
                go_wp2_with fail
                refine (unhex_any w8 S hSs).mono ?_
                rintro e w9 ⟨hans, hc9⟩
                have HC9 := Lib.hid (HC8.out.trans hc9 (fun _ f => f.elim))
                rcases hans with ⟨hno, _⟩ | ⟨a9, bs9, c9, hyes, rfl, hrow, hnew⟩
                · rw [HSl.out, unhex_hex] at hno; cases hno
                · rw [HSl.out, unhex_hex] at hyes
                  obtain rfl : p.2 = bs9 := by injection hyes
                  have HRow := Lib.hid hrow
                  have HNew : Hid (∀ g, (Value.slice a9 p.2.length c9).ownBlock = some g → wr.heap.size ≤ g) := Lib.hid (fun g e => Nat.le_trans HC8.out.size (hnew g e))
                  clear hrow hnew hc9 hyes
                  go_wp2_with fail
                  refine (keepB HOq.out h4 (by omega) HC9.out a9 c9 p.2 (by omega) HRow.out HNew.out).mono ?_
                  rintro e w10 ⟨rfl, hO10⟩
                  have HO10 := Lib.hid hO10
                  clear hO10
                  go_wp2_with fail
                  go_roundg (ps.length - (j + 1))
                  case measure => have := Hg2.out; omega
                  case rel => exact ⟨j + 1, by omega, rfl, by go_num, HO10.out⟩
            · have hjj : ¬ (j : Int) < (ps.length : Int) := by omega
              go_wp2_with fail
              go_roundg (2 - (i + 1))
              case measure => have := Hg.out; omega
              case rel => exact ⟨i + 1, by omega, rfl, by go_num, HOq.out.mono (by omega) (by omega)⟩
        · have hii : ¬ (i : Int) < 2 := by omega
          go_wp2_with fail
          refine (finish_own (HE.out.chg0 HO.out.chg) HO.out).mono ?_
          rintro e w5 ⟨rfl, hc5⟩
          have HC5 := Lib.hid hc5
          clear hc5
          go_wp2_with fail
          go_ret
          exact ⟨rfl, HC5.out⟩
    · have hcb : (cd != 0) = true := by rw [bne_iff_ne]; exact hcd
      clear hcd
      go_wp2_with (fail)
      go_ret
      exact ⟨rfl, C3.out⟩

theorem owns_law (w : World) (hE : Env w) (v : Value) (ps : List PairB) (h : SeesP w v ps) : Calls Tryz.prog 3 #[v] w fun e w' => e = .returned (.bool true) ∧ Chg (fun _ => False) w w' := by
  by_cases hl : 60 < ps.length
  · exact owns_long w hE v ps h hl
  · exact owns_go w hE v ps h hl
end Go.Proofs.YteejkkidnohcfaaGreatDoor
