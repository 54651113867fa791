/- Walk: stays. -/
import Derived.Test.YteejkkidnohcfaaDoorM5
import Derived.Deep.QuietTactic
import Derived.BigQuiet
import Derived.IntWalk
namespace Go.Proofs.YteejkkidnohcfaaDoor
open Go Go.RowKit Go.Maps

set_option maxRecDepth 100000 in
set_option maxHeartbeats 8000000 in
theorem stays_any (w0 w : World) (v vl : Value) (vs : List (Value × Value)) (ps : List PairB) (hL : LentR w0 w v vs ps) (h : SeesP w vl ps) (hs : SmallP ps) :
    Calls Tryd.prog 21 #[v, vl] w fun e w' => e = .returned (.bool true) ∧ Chg (fun _ => False) w w' := by
  have HS := Lib.hid hs
  have HP := Lib.hid h
  have HL := Lib.hid hL
  have HSee := Lib.hid hL.sees
  obtain ⟨a, cap, rfl, hn, hc⟩ := h
  obtain ⟨⟨g, mc, gz, rfl, hmc, _⟩, _⟩ := hL
  have Hn := Lib.hid hn
  have hln := hs.len
  clear hn hc hs
  go_enter Tryd.func21, Tryd.ntmps21
  go_wp2_with fail
  refine (samePairs_any _ _ _ ps ps HSee.out HP.out (by omega)).mono ?_
  rintro e w1 ⟨rfl, hc1⟩
  rw [decide_eq_true rfl]
  have HL1 := Lib.hid (HL.out.chg0 hc1)
  have HP1 := Lib.hid (HP.out.chg0 hc1)
  have HC1 := Lib.hid hc1
  clear hc1
  go_wp2_with fail
  go_loopg [5, 6, 7, 8] ps.length (fun gm ov iv _ _ wr => ∃ (k : Nat), k ≤ ps.length ∧ gm = ps.length - k ∧ iv = .int .i64 k ∧ ov = .bool true ∧ Chg (fun _ => False) w1 wr)
  case atStart => exact ⟨0, by omega, rfl, rfl, rfl, Chg.refl _ _⟩
  case round =>
    obtain ⟨k, hk, hg, rfl, rfl, hch⟩ := hrel
    have Hg := Lib.hid hg
    have HCh := Lib.hid hch
    have HLr := Lib.hid (HL1.out.chg0 hch)
    clear hg hch
    by_cases hlt : k < ps.length
    · obtain ⟨p, hp⟩ : ∃ p, ps[k]? = some p := ⟨_, List.getElem?_eq_getElem hlt⟩
      have HPk := Lib.hid hp
      have HSm : Hid (p.1.length ≤ 16777216 ∧ p.2.length ≤ 16777216) := Lib.hid (HS.out.key p (List.mem_of_getElem? hp))
      have hki : (k : Int) < (ps.length : Int) := by omega
      have hk0 : (0 : Int) ≤ (k : Int) := by omega
      clear hp
      cases a with
      | none => have := Hn.out rfl; subst this; simp at hlt
      | some ad =>
        obtain ⟨_, _, e1, _, f1⟩ := HP1.out.chg0 HCh.out
        cases e1
        obtain ⟨kv, uv, ck, cu, sk, su⟩ := f1 ad rfl k p HPk.out
        have cu' : wr.cell? ⟨(ad.add (k * 2)).block, (ad.add (k * 2)).off + 1, none⟩ = some uv := by
          have h3 : wr.cell? ((ad.add (k * 2)).add 1) = some uv := by rw [add_add]; exact cu
          exact h3
        obtain ⟨ka, kc, rfl, _, _⟩ := sk
        obtain ⟨ua, uc, rfl, _, _⟩ := su
        obtain ⟨⟨g', mc', gz', e2, hmc', _, hrow, _⟩, hcore⟩ := HLr.out
        cases e2
        obtain ⟨x, hx⟩ : ∃ x, vs[k]? = some x := ⟨_, List.getElem?_eq_getElem (by rw [hcore.len]; exact hlt)⟩
        obtain ⟨g1, g2, l1, l2, _⟩ := hcore.bytes k x p hx HPk.out
        obtain ⟨d1, d2⟩ := pCells_get (vs ++ [(.slice (some ⟨gz', 0, none⟩) 1 1, .slice none 0 0)]) k x (by rw [List.getElem?_append_left (by rw [hcore.len]; exact hlt)]; exact hx)
        have d1' := hrow.cells rfl _ _ d1
        have d2' := hrow.cells rfl _ _ d2
        rw [addr_add, Nat.zero_add] at d1' d2'
        have m1 : wr.cell? ⟨g1, p.1.length, none⟩ = some (.int .u8 201) := l1.mark
        have m2 : wr.cell? ⟨g2, p.2.length, none⟩ = some (.int .u8 202) := l2.mark
        obtain ⟨c1, q1, hc1, _⟩ := l1
        obtain ⟨c2, q2, hc2, _⟩ := l2
        rw [q1] at d1'
        rw [q2] at d2'
        have b1 : (p.1.length : Int) + 1 ≤ (c1 : Int) := by omega
        have b2 : (p.2.length : Int) + 1 ≤ (c2 : Int) := by omega
        have z1 : (0 : Int) ≤ (p.1.length : Int) + 1 := by omega
        have z2 : (0 : Int) ≤ (p.2.length : Int) + 1 := by omega
        have z3 : (p.1.length : Int) < (p.1.length : Int) + 1 := by omega
        have z4 : (p.2.length : Int) < (p.2.length : Int) + 1 := by omega
        have t1 : IntKind.i64.wrap ((p.1.length : Int) + 1) = (p.1.length : Int) + 1 := by rw [IntKind.wrap_i64]; have := HSm.out.1; omega
        have t2 : IntKind.i64.wrap ((p.2.length : Int) + 1) = (p.2.length : Int) + 1 := by rw [IntKind.wrap_i64]; have := HSm.out.2; omega
        clear cu f1 hcore hrow hx d1 d2 q1 q2 hmc'
        go_wp2_with fail
        go_quiet (fail)
        go_wp2_with fail
        go_quiet (fail)
        go_wp2_with fail
        go_roundg (ps.length - (k + 1))
        case measure => have := Hg.out; omega
        case rel => exact ⟨k + 1, by omega, rfl, by go_num, rfl, HCh.out.drewN _⟩
    · have hkn : k = ps.length := by omega
      subst hkn
      obtain ⟨⟨g', mc', gz, e2, hmc', _, hrow, _, _, _, hz⟩, hcore⟩ := HLr.out
      cases e2
      obtain ⟨d1, d2⟩ := pCells_get (vs ++ [(.slice (some ⟨gz, 0, none⟩) 1 1, .slice none 0 0)]) ps.length (.slice (some ⟨gz, 0, none⟩) 1 1, .slice none 0 0) (by rw [List.getElem?_append_right (by rw [hcore.len]; omega), hcore.len, Nat.sub_self]; rfl)
      have d1' := hrow.cells rfl _ _ d1
      have d2' := hrow.cells rfl _ _ d2
      rw [addr_add, Nat.zero_add] at d1' d2'
      have b1 : (ps.length : Int) + 1 ≤ (mc : Int) := by omega
      have z1 : (0 : Int) ≤ (ps.length : Int) + 1 := by omega
      have z3 : (ps.length : Int) < (ps.length : Int) + 1 := by omega
      have HC2 : Hid (Chg (fun _ => False) w wr) := Lib.hid (HC1.out.trans HCh.out (fun _ f => f.elim))
      have hz2 : ∀ o, (wr.alloc o).cell? ⟨gz, 0, none⟩ = some (.int .u8 203) := fun o => cell_chg ((Chg.refl (fun _ => False) wr).alloc o) hz (fun f => f)
      clear Hg hcore hrow d1 d2 hmc'
      go_wp2_with fail
      go_ret
      exact ⟨rfl, HC2.out.alloc _⟩
end Go.Proofs.YteejkkidnohcfaaDoor
