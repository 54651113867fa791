/- Walks: the law PoolPlays. -/
import Derived.Test.YtipclbibomemjaaV17
import Derived.Test.YtipclbibomemjaaQ2
namespace Go.Proofs.Ytipclbibomemjaa
open Go Go.RowKit Go.Maps

theorem begin_half (w0 w : World) (h0 : w0.heap.size ≤ w.heap.size) (v : Value) (zs : List Int) (h : SeesI w v zs) (count cap : Int) (hl : zs.length ≤ 4000) :
    Calls Try.prog 8 #[.int .i64 count, .int .i64 cap, v] w fun e w' => ∃ b T, e = .returned (.tuple #[.pointer (some ⟨b, 0, none⟩), .bool true]) ∧ Half w' T b 0 ∧ (∀ k, T k → w.heap.size ≤ k) ∧ Chg (fun _ => False) w w' := by
  by_cases hy : newOk count cap zs
  · refine (begin_yes w v zs h count cap hl hy).mono ?_
    rintro e w' ⟨b, pb, m1, m2, rb, T, T2, rfl, hp, hc, hT⟩
    exact ⟨b, T, rfl, .pair pb m1 m2 rb T2 _ hp (new_fit hy), hT, hc⟩
  · refine (begin_no w v zs h count cap hl hy).mono ?_
    rintro e w' ⟨b, rfl, hb, hc, hn⟩
    refine ⟨b, fun k => k = b, rfl, .nil hb rfl (fun k e => ?_), fun k e => ?_, hc⟩
    · have h2 : k = b := e; rw [h2]; exact heap_lt hb
    · have h2 : k = b := e; rw [h2]; exact hn
def End4 (w : World) (e : Ending) (w' : World) : Prop := TrueB w e w'

set_option maxRecDepth 100000 in
theorem plays_few (w : World) (count cap second : Int) (v2 v4 : Value) (free : List Int) (h : SeesI w v2 free) (hno : fitsB cap free.length = false) :
    Calls Try.prog 4 #[.int .i64 count, .int .i64 cap, v2, .int .i64 second, v4] w (TrueB w) := by
  obtain ⟨a2, c2, rfl⟩ := h.slice
  have HF := Lib.hid hno
  clear h hno
  go_enter Try.func4, Try.ntmps4
  go_wp2_with (first
    | (go_at_call 7; refine (first_any _).mono ?_; rintro e wa ⟨rfl, ba⟩; have BA := Lib.hid ba; clear ba)
    | (go_at_call 10; refine (fits_any _ _ _ _ _).mono ?_; rintro e wa ⟨rfl, rfl⟩; rw [HF.out]))
  go_ret
  exact TrueB.mk BA.out

set_option maxRecDepth 100000 in
set_option maxHeartbeats 8000000 in
theorem plays_go (w : World) (count cap second : Int) (v2 v4 : Value) (free : List Int) (os : List OpD) (h : SeesI w v2 free) (hs : OpsA w v4 os) (hol : os.length ≤ 9223372036854775807) (hf : fitsB cap free.length = true) :
    Calls Try.prog 4 #[.int .i64 count, .int .i64 cap, v2, .int .i64 second, v4] w (TrueB w) := by
  have H2 := Lib.hid h
  have HS := Lib.hid hs
  obtain ⟨a2, c2, rfl⟩ := h.slice
  obtain ⟨a4, c4, rfl, hcells⟩ := hs
  have HCells := Lib.hid hcells
  have hfl : free.length ≤ 4000 := (of_decide_eq_true hf).2
  have HF := Lib.hid hf
  clear h hf hcells
  go_enter Try.func4, Try.ntmps4
  go_wp2_with (first
    | (go_at_call 7; refine (first_any _).mono ?_; rintro e wa ⟨rfl, ba⟩; have BA := Lib.hid ba; clear ba)
    | (go_at_call 10; refine (fits_any _ _ _ _ _).mono ?_; rintro e wa ⟨rfl, rfl⟩; rw [HF.out])
    | fail)
  have hcA : Chg (fun _ => False) w wa := ⟨BA.out.os, BA.out.tape, BA.out.output, BA.out.size, fun k hk _ => BA.out.block k hk⟩
  refine (begin_half w wa BA.out.size _ free (H2.out.chg0 hcA) _ _ hfl).mono ?_
  rintro e wb ⟨ba, Ta, rfl, hHa, hTa, hcb⟩
  have CB := Lib.hid (hcA.trans hcb (fun _ f => f.elim))
  have HHa := Lib.hid hHa
  have HTa := Lib.hid (show ∀ k, Ta k → w.heap.size ≤ k from fun k e => Nat.le_trans hcA.size (hTa k e))
  clear hcA hHa hTa hcb
  go_wp2_with fail
  refine (begin_half w wb CB.out.size (.slice none 0 0) [] ⟨none, 0, rfl, fun _ => rfl, fun ad e => (by cases e)⟩ _ _ (by simp)).mono ?_
  rintro e wc ⟨bc, Tc, rfl, hHc, hTc, hcc⟩
  have B0 : Hid (Both w wc Ta Tc ba bc 0) := Lib.hid ⟨HHa.out.other hcc (fun _ _ f => f), hHc, fun k e f => (by have h1 := HHa.out.lt k e; have h2 := hTc k f; omega), HTa.out, fun k e => Nat.le_trans CB.out.size (hTc k e), CB.out.trans hcc (fun _ f => f.elim)⟩
  clear hHc hTc hcc HHa HTa CB
  go_wp2_with fail
  go_loopg [16, 11] os.length (fun gm iv okv wr => ∃ (k : Nat) (Ta Tc : Nat → Prop), k ≤ os.length ∧ k ≤ 1000 ∧ gm = os.length - k ∧ iv = .int .i64 k ∧ okv = .bool true ∧ Both w wr Ta Tc ba bc k)
  case atStart => exact ⟨0, Ta, Tc, by omega, by omega, rfl, rfl, rfl, B0.out⟩
  case round =>
    clear B0
    obtain ⟨k, Ta, Tc, hk, hk1000, hg, rfl, rfl, hB⟩ := hrel
    have Hg := Lib.hid hg
    have HB := Lib.hid hB
    clear hg
    by_cases hlt : k < os.length ∧ k < 1000
    · obtain ⟨hlt, hlt2⟩ := hlt
      obtain ⟨o, ho⟩ : ∃ o, os[k]? = some o := ⟨_, List.getElem?_eq_getElem hlt⟩
      obtain ⟨g, off, e, hcs⟩ := HCells.out (by omega)
      subst e
      obtain ⟨ga, gc, q0, q1, q2, q3, q4, qs, qo⟩ := hcs k o ho
      have hch := hB.chg
      have c0 := hch.get_cell q0 (fun f => f)
      have c1 := hch.get_cell q1 (fun f => f)
      have c2 := hch.get_cell q2 (fun f => f)
      have c3 := hch.get_cell q3 (fun f => f)
      have c4 := hch.get_cell q4 (fun f => f)
      have QS := Lib.hid (qs.chg0 hch)
      have QO := Lib.hid qo
      have Qold := Lib.hid qs.old
      have hki : (k : Int) < (os.length : Int) := by omega
      have hki2 : (k : Int) < 1000 := by omega
      have hk0 : (0 : Int) ≤ (k : Int) := by omega
      obtain ⟨sc, hsc⟩ : ∃ sc, o.second = sc := ⟨_, rfl⟩
      have HSC := Lib.hid hsc
      rw [hsc] at c4
      clear q0 q1 q2 q3 q4 qs qo hcs ho hch hsc
      cases sc with
      | false =>
        have HH := Lib.hid hB.ha
        clear hB
        rcases HH.out with ⟨hnil, _, _⟩ | ⟨pb, m1, m2, rb, T2, P, hP, hfit⟩
        · have d0 : wr.cell? ⟨ba, 0, none⟩ = some (.pointer none) := by simp [World.cell?, hnil]
          clear hnil
          go_wp2_with fail
          go_roundg (os.length - (k + 1))
          case measure => have := Hg.out; omega
          case rel => exact ⟨k + 1, Ta, Tc, by omega, by omega, rfl, by go_num, rfl, HB.out.mono (Nat.le_succ k)⟩
        · have d0 := hP.cells.1
          have HPp := Lib.hid hP
          have Hfit := Lib.hid hfit
          have hkm : k < 1000000 := by omega
          have Far : Hid (∀ ad, ga = some ad → o.gone ≠ [] → ad.block < wr.heap.size ∧ ¬ Ta ad.block) := Lib.hid (fun ad e hne => by
            have h1 := Qold.out ad e hne
            exact ⟨Nat.lt_of_lt_of_le h1 HB.out.chg.size, fun e2 => by have := HB.out.na _ e2; omega⟩)
          clear hP hfit
          go_wp2_with fail
          have HPl := Lib.hid (plays_any HPp.out Hfit.out hkm o QO.out ga gc QS.out Far.out)
          have hpl := HPl.out
          unfold opV at hpl
          rw [HSC.out] at hpl
          refine hpl.mono ?_
          rintro e w5 ⟨rfl, T', pb', m1', m2', rb', T2', P', hp5, hf5, hs5⟩
          have HB5 : Hid (Both w w5 T' Tc ba bc (k + 1)) := Lib.hid ((HB.out.step (Nat.le_succ k) (.pair pb' m1' m2' rb' T2' P' hp5 hf5) hs5))
          clear hp5 hf5 hs5 hpl
          go_wp2_with fail
          go_roundg (os.length - (k + 1))
          case measure => have := Hg.out; omega
          case rel => exact ⟨k + 1, T', Tc, by omega, by omega, rfl, by go_num, rfl, HB5.out⟩
      | true =>
        have HH := Lib.hid hB.hc
        clear hB
        rcases HH.out with ⟨hnil, _, _⟩ | ⟨pb, m1, m2, rb, T2, P, hP, hfit⟩
        · have d0 : wr.cell? ⟨bc, 0, none⟩ = some (.pointer none) := by simp [World.cell?, hnil]
          clear hnil
          go_wp2_with fail
          go_roundg (os.length - (k + 1))
          case measure => have := Hg.out; omega
          case rel => exact ⟨k + 1, Ta, Tc, by omega, by omega, rfl, by go_num, rfl, HB.out.mono (Nat.le_succ k)⟩
        · have d0 := hP.cells.1
          have HPp := Lib.hid hP
          have Hfit := Lib.hid hfit
          have hkm : k < 1000000 := by omega
          have Far : Hid (∀ ad, ga = some ad → o.gone ≠ [] → ad.block < wr.heap.size ∧ ¬ Tc ad.block) := Lib.hid (fun ad e hne => by
            have h1 := Qold.out ad e hne
            exact ⟨Nat.lt_of_lt_of_le h1 HB.out.chg.size, fun e2 => by have := HB.out.nc _ e2; omega⟩)
          clear hP hfit
          go_wp2_with fail
          have HPl := Lib.hid (plays_any HPp.out Hfit.out hkm o QO.out ga gc QS.out Far.out)
          have hpl := HPl.out
          unfold opV at hpl
          rw [HSC.out] at hpl
          refine hpl.mono ?_
          rintro e w5 ⟨rfl, T', pb', m1', m2', rb', T2', P', hp5, hf5, hs5⟩
          have HB5 : Hid (Both w w5 Ta T' ba bc (k + 1)) := Lib.hid ((HB.out.swap.step (Nat.le_succ k) (.pair pb' m1' m2' rb' T2' P' hp5 hf5) hs5).swap)
          clear hp5 hf5 hs5 hpl
          go_wp2_with fail
          go_roundg (os.length - (k + 1))
          case measure => have := Hg.out; omega
          case rel => exact ⟨k + 1, Ta, T', by omega, by omega, rfl, by go_num, rfl, HB5.out⟩
    · have HA := Lib.hid hB.ha
      have HCc := Lib.hid hB.hc
      have HK : Hid (k < 1000000) := Lib.hid (by omega)
      clear hB
      by_cases hlt1 : k < os.length
      all_goals
        first
          | (have hki : (k : Int) < (os.length : Int) := by omega
             have hki2 : ¬ (k : Int) < 1000 := by omega
             clear hlt hlt1)
          | (have hki : ¬ (k : Int) < (os.length : Int) := by omega
             clear hlt hlt1)
        rcases HA.out with ⟨hnil, _, _⟩ | ⟨pb, m1, m2, rb, T2, P, hP, hfit⟩
        · have d0 : wr.cell? ⟨ba, 0, none⟩ = some (.pointer none) := by simp [World.cell?, hnil]
          clear hnil
          rcases HCc.out with ⟨hnil, _, _⟩ | ⟨qb, n1, n2, sb, S2, Q, hQ, hfit⟩
          · have d1 : wr.cell? ⟨bc, 0, none⟩ = some (.pointer none) := by simp [World.cell?, hnil]
            have D1 := Lib.hid d1
            clear hnil
            go_wp2_with fail
            go_ret
            exact TrueB.mk (HB.out.chg.toBelow (fun _ f => f.elim))
          · have d1 := hQ.cells.1
            have D1 := Lib.hid d1
            have HQq := Lib.hid hQ
            have Gfit := Lib.hid hfit
            clear hQ hfit
            go_wp2_with (go_at_call 9; refine (tells_any HQq.out (Gfit.out.small HK.out)).mono ?_; rintro e w6 ⟨rfl, hc6⟩; have C6 := Lib.hid hc6; clear hc6)
            go_ret
            exact TrueB.mk ((HB.out.chg.trans C6.out (fun _ f => f.elim)).toBelow (fun _ f => f.elim))
        · have d0 := hP.cells.1
          have HPp := Lib.hid hP
          have Hfit := Lib.hid hfit
          clear hP hfit
          rcases HCc.out with ⟨hnil, _, _⟩ | ⟨qb, n1, n2, sb, S2, Q, hQ, hfit⟩
          · have d1 : wr.cell? ⟨bc, 0, none⟩ = some (.pointer none) := by simp [World.cell?, hnil]
            have D1 := Lib.hid d1
            clear hnil
            go_wp2_with (go_at_call 9; refine (tells_any HPp.out (Hfit.out.small HK.out)).mono ?_; rintro e w5 ⟨rfl, hc5⟩; have C5 := Lib.hid hc5; have d5 := hc5.get_cell D1.out (fun f => f); clear hc5)
            go_ret
            exact TrueB.mk ((HB.out.chg.trans C5.out (fun _ f => f.elim)).toBelow (fun _ f => f.elim))
          · have d1 := hQ.cells.1
            have D1 := Lib.hid d1
            have HQq := Lib.hid hQ
            have Gfit := Lib.hid hfit
            clear hQ hfit
            go_wp2_with fail
            refine (tells_any HPp.out (Hfit.out.small HK.out)).mono ?_
            rintro e w5 ⟨rfl, hc5⟩
            have C5 := Lib.hid hc5
            have d5 := hc5.get_cell D1.out (fun f => f)
            have HQ5 := Lib.hid (HQq.out.chg0 hc5)
            clear hc5
            go_wp2_with fail
            refine (tells_any HQ5.out (Gfit.out.small HK.out)).mono ?_
            rintro e w6 ⟨rfl, hc6⟩
            have C6 := Lib.hid hc6
            clear hc6
            go_wp2_with fail
            go_ret
            exact TrueB.mk (((HB.out.chg.trans C5.out (fun _ f => f.elim)).trans C6.out (fun _ f => f.elim)).toBelow (fun _ f => f.elim))

theorem plays_law (w : World) (count cap second : Int) (v2 v4 : Value) (free : List Int) (os : List OpD) (h : SeesI w v2 free) (hs : OpsA w v4 os) (hol : os.length ≤ 9223372036854775807) :
    Calls Try.prog 4 #[.int .i64 count, .int .i64 cap, v2, .int .i64 second, v4] w (TrueB w) := by
  cases hf : fitsB cap free.length with
  | false => exact plays_few w count cap second v2 v4 free h hf
  | true => exact plays_go w count cap second v2 v4 free os h hs hol hf
end Go.Proofs.Ytipclbibomemjaa
