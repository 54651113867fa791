/- Walks: New makes a pool. -/
import Derived.Test.YtipclbibomemjaaGreatDoorU10
import Derived.Carry
import Derived.Outline
namespace Go.Proofs.YtipclbibomemjaaGreatDoor
open Go Go.RowKit Go.Maps

theorem new_lies (w : World) (count cap : Nat) : PoolF (((w.alloc (.map #[] 0)).alloc (.map #[] 0)).alloc (.cells #[.int .i64 count, .int .i64 cap, .map (some w.heap.size), .map (some (w.heap.size + 1))] 64)) (w.heap.size + 2) w.heap.size (w.heap.size + 1) { size := count, cap := cap, free := [], pins := [], wr := 0 } := by
  refine ⟨?_, ⟨.map [], ((World.ownsMap_made w Tryz.prog 3 RI).alloc _).alloc _, FreeOf.nil⟩, ⟨.map [], ?_, PinsOf.nil⟩, by omega, by omega, by omega⟩
  · have := heap_alloc_new ((w.alloc (.map #[] 0)).alloc (.map #[] 0)) (.cells #[.int .i64 count, .int .i64 cap, .map (some w.heap.size), .map (some (w.heap.size + 1))] 64)
    simpa using this
  · have := (World.ownsMap_made (w.alloc (.map #[] 0)) Tryz.prog 3 RI).alloc (.cells #[.int .i64 count, .int .i64 cap, .map (some w.heap.size), .map (some (w.heap.size + 1))] 64)
    simpa using this

theorem back_snoc {zs : List Int} {k : Nat} {m : Nat} (ver : Int) (h : zs[k]? = some (m : Int)) : back (zs.take (k + 1)) ver = back (zs.take k) ver ++ [(m, ver)] := by
  unfold back; rw [List.take_add_one, h, List.map_append]; rfl

set_option maxRecDepth 100000 in
set_option maxHeartbeats 4000000 in
theorem new_yes (w : World) (v : Value) (zs : List Int) (h : SeesI w v zs) (count cap : Int) (hl : zs.length ≤ 1000000) (hyes : newOk count cap zs) :
    Calls Tryz.prog 6 #[.int .i64 count, .int .i64 cap, v] w fun e w' => ∃ pb m1 m2, e = .returned (.pointer (some ⟨pb, 0, none⟩)) ∧ PoolF w' pb m1 m2 (PS.new count cap zs) ∧ Chg (fun _ => False) w w' ∧ w.heap.size ≤ pb ∧ w.heap.size ≤ m1 ∧ w.heap.size ≤ m2 := by
  have HS := Lib.hid h
  obtain ⟨a, c, rfl, hn, hc⟩ := h
  have Hn := Lib.hid hn
  obtain ⟨h1, h2, h3, h4⟩ := hyes
  obtain ⟨n, rfl⟩ : ∃ n : Nat, count = n := ⟨count.toNat, by omega⟩
  obtain ⟨cp, rfl⟩ : ∃ n : Nat, cap = n := ⟨cap.toNat, by omega⟩
  have HR := Lib.hid h4
  have hmm := @run_makeMap Tryz.prog
  have hl63 : zs.length ≤ 9223372036854775807 := by omega
  have t1 : ¬ (n : Int) < 2 := by omega
  have t2 : ¬ (cp : Int) < (n : Int) := by omega
  have t3 : ¬ (524287 : Int) < (cp : Int) := by omega
  have HL := Lib.hid (new_lies w n cp)
  obtain ⟨B, hB⟩ : ∃ B, B = w.heap.size := ⟨_, rfl⟩
  have HB := Lib.hid hB
  clear hn hc h4 hB
  go_enter Tryz.func6, Tryz.ntmps6
  go_wp2_with (first
    | (go_at_call 21; refine (rise_any _ _ zs HS.out _ hl63).mono ?_; rintro e w' ⟨rfl, rfl⟩; rw [HR.out])
    | fail)
  obtain ⟨w0, hw0⟩ : ∃ w0, w0 = (((w.alloc (.map #[] 0)).alloc (.map #[] 0)).alloc (.cells #[.int .i64 n, .int .i64 cp, .map (some w.heap.size), .map (some (w.heap.size + 1))] 64)) := ⟨_, rfl⟩
  have HP0 : Hid (PoolF w0 (B + 2) B (B + 1) { size := n, cap := cp, free := [], pins := [], wr := 0 }) := Lib.hid (by have := HL.out; rw [← hw0, ← HB.out] at this; exact this)
  have HC0 : Hid (Chg (fun _ => False) w w0) := Lib.hid (by rw [hw0]; exact (((Chg.refl _ w).alloc _).alloc _).alloc _)
  try rw [← hw0]
  try rw [← HB.out]
  clear hw0
  obtain ⟨pb, hpb⟩ : ∃ pb, pb = B + 1 + 1 := ⟨_, rfl⟩
  rw [← hpb]
  replace HP0 : Hid (PoolF w0 pb B (B + 1) { size := n, cap := cp, free := [], pins := [], wr := 0 }) := Lib.hid (by rw [hpb]; exact HP0.out)
  have HPB := Lib.hid hpb
  clear hpb
  go_loopg [35, 9] zs.length (fun gm iv nv wr => ∃ k : Nat, k ≤ zs.length ∧ gm = zs.length - k ∧ iv = .int .i64 k ∧ PoolF wr pb B (B + 1) { size := n, cap := cp, free := back (zs.take k) 0, pins := [], wr := 0 } ∧ Chg (fun x => x = B) w0 wr)
  case atStart => exact ⟨0, by omega, rfl, rfl, by rw [List.take_zero]; exact HP0.out, Chg.refl _ _⟩
  case round =>
    obtain ⟨k, hk, hg, rfl, hP, hch⟩ := hrel
    have Hg := Lib.hid hg
    have HP := Lib.hid hP
    have HCh : Hid (Chg (fun _ => False) w wr) := Lib.hid (HC0.out.trans hch (fun x e => .inr (by rw [e, HB.out]; exact Nat.le_refl _)))
    obtain ⟨_, _, q2, _, _⟩ := hP.cells
    by_cases hlt : k < zs.length
    · obtain ⟨x, hx⟩ : ∃ x, zs[k]? = some x := ⟨_, List.getElem?_eq_getElem hlt⟩
      have hxm := List.mem_of_getElem? hx
      obtain ⟨hx2, hx3⟩ := (riseK_facts HR.out).2 x hxm
      obtain ⟨m, rfl⟩ : ∃ m : Nat, x = m := ⟨x.toNat, by omega⟩
      have hmx : (m : Int) ≤ 1000000 := by omega
      cases a with
      | none => have := Hn.out rfl; subst this; simp at hlt
      | some ad =>
        have cx : wr.cell? (ad.add k) = some (.int .i64 m) := by
          obtain ⟨a2, c2, e2, _, h2⟩ := HS.out.chg0 HCh.out
          cases e2
          exact h2 ad rfl k m hx
        obtain ⟨M, hown, hM⟩ := hP.fr
        have HM := Lib.hid hM
        have HOwn := Lib.hid hown
        have HX := Lib.hid hx
        have hki : (k : Int) < (zs.length : Int) := by omega
        have hk0 : (0 : Int) ≤ (k : Int) := by omega
        have HML : Hid ((back (zs.take k) 0).length < maxLen) := Lib.hid (by unfold back; rw [List.length_map, List.length_take]; unfold maxLen; omega)
        have HCh0 := Lib.hid hch
        clear hg hP hch hx hxm hM hown
        go_wp2_with (first
          | (at_mapUpdate; refine wpList_mapUpdate_own _ rfl _ _ _ 62 rfl 3 3 law3 Tryz.underlying62 _ B _ M rfl HOwn.out HML.out _ _ _ rfl rfl (keyOf_int_mk Tryz.underlying3 (wfI (by omega) (by omega))) _ [] (plainElem_int Tryz.underlying3 (wfI (by omega) (by omega))) ?_; intro w6 hown6 hgrow6; have HOwn6 := Lib.hid hown6; have HC6 : Hid (Chg (fun x => x = B) wr w6) := Lib.hid ((Chg.refl (fun x => x = B) wr).grown hgrow6 (fun k e => .inl (by cases e; rfl))); clear hown6 hgrow6)
          | go_in)
        go_roundg (zs.length - (k + 1))
        case measure => have := Hg.out; omega
        case rel =>
          refine ⟨k + 1, by omega, rfl, by go_num, ?_, HCh0.out.trans HC6.out (fun y e => .inl e)⟩
          rw [back_snoc 0 HX.out]
          refine HP.out.setFree HC6.out HOwn6.out (HM.out.put m 0 (fun q hq e => ?_))
          obtain ⟨y, hy, rfl⟩ := List.mem_map.1 hq
          have hlt4 : y < (m : Int) := by
            have hp := (riseK_facts HR.out).1
            obtain ⟨i, hi, rfl⟩ := List.mem_take_iff_getElem.1 hy
            have hgk := (List.getElem?_eq_some_iff.1 HX.out)
            have := List.pairwise_iff_getElem.1 hp i k (by omega) hgk.1 (by omega)
            rw [hgk.2] at this; exact this
          have e' : y.toNat = m := e
          omega
    · have hkz : zs.length = k := by omega
      have HE : Hid (PoolF wr pb B (B + 1) (PS.new n cp zs)) := Lib.hid (by rw [List.take_of_length_le (by omega)] at hP; exact hP)
      clear hP hch hg hkz
      go_wp2_with fail
      go_ret
      refine ⟨pb, rfl, B, B + 1, HE.out, HCh.out, ?_, ?_, ?_⟩ <;> have := HB.out <;> have := HPB.out <;> omega
end Go.Proofs.YtipclbibomemjaaGreatDoor
