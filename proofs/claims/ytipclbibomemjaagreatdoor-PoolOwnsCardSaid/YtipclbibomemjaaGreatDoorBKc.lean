/- Walks: a book that keeps lists of ints alone: untouched, written over, looked at, grown, finished. (Printed by comp1.py.) -/
import Derived.Test.YtipclbibomemjaaGreatDoorBKi6
import Derived.Test.YtipclbibomemjaaGreatDoorBKz
namespace Go.Proofs.YtipclbibomemjaaGreatDoor
open Go Go.RowKit Go.Maps

def Nils (F : Nat → Value) : Prop := ∀ i, 2 ≤ i → i < 41 → i ≠ 5 → i ≠ 6 → F i = .slice none 0 0
theorem nil_cell {w : World} {own : Own} {b : Nat} {F : Nat → Value} (hb : BookF 46 w own b F) (hn : Nils F) (i : Nat) (h1 : 2 ≤ i) (h2 : i < 41) (h3 : i ≠ 5) (h4 : i ≠ 6) : w.cell? ⟨b, i, none⟩ = some (.slice none 0 0) := by
  rw [hb.cell i h2, hn i h1 h2 h3 h4]

set_option maxRecDepth 100000 in
set_option maxHeartbeats 8000000 in
theorem untouched_any (w : World) (own : Own) (b : Nat) (F : Nat → Value) (hb : BookF 46 w own b F) (hn : Nils F) (rv wv : Value) (xs ws : List (Value × Nat)) (cc : List (List Int)) (hrv : F 5 = rv) (hwv : F 6 = wv) (hk : intsKept w own rv wv xs ws cc) (hl : cc.length ≤ 1000000) (hsz : ∀ bs ∈ cc, bs.length ≤ 134217728) :
    Calls Tryz.prog 25 #[.pointer (some ⟨b, 0, none⟩)] w fun e w' => e = .returned (.bool true) ∧ Chg (fun _ => False) w w' := by
  have HB := Lib.hid hb
  have HN := Lib.hid hn
  have HK := Lib.hid hk
  have HRv := Lib.hid hrv
  have HWv := Lib.hid hwv
  have HSz := Lib.hid hsz
  clear hb hn hk hrv hwv hsz
  go_enter Tryz.func25, Tryz.ntmps25
  go_wp2_with fail
  refine (zbytesUntouched _ b (nil_cell HB.out HN.out 2 (by omega) (by omega) (by omega) (by omega))).mono ?_
  rintro e _ ⟨rfl, rfl⟩
  go_wp2_with fail
  refine (intsuntouched_any _ own b F HB.out rv wv xs ws cc HRv.out HWv.out HK.out hl HSz.out).mono ?_
  rintro e wu ⟨rfl, hcu⟩
  have HCu := Lib.hid hcu
  have HBu := Lib.hid (HB.out.chg0ints hcu)
  clear hcu
  go_wp2_with fail
  refine (ztextsUntouched _ b (nil_cell HBu.out HN.out 8 (by omega) (by omega) (by omega) (by omega))).mono ?_
  rintro e _ ⟨rfl, rfl⟩
  go_wp2_with fail
  refine (zbyteListsUntouched _ b (nil_cell HBu.out HN.out 11 (by omega) (by omega) (by omega) (by omega))).mono ?_
  rintro e _ ⟨rfl, rfl⟩
  go_wp2_with fail
  refine (zintListsUntouched _ b (nil_cell HBu.out HN.out 14 (by omega) (by omega) (by omega) (by omega))).mono ?_
  rintro e _ ⟨rfl, rfl⟩
  go_wp2_with fail
  refine (zpairsUntouched _ b (nil_cell HBu.out HN.out 17 (by omega) (by omega) (by omega) (by omega))).mono ?_
  rintro e _ ⟨rfl, rfl⟩
  go_wp2_with fail
  refine (zitemsUntouched _ b (nil_cell HBu.out HN.out 20 (by omega) (by omega) (by omega) (by omega))).mono ?_
  rintro e _ ⟨rfl, rfl⟩
  go_wp2_with fail
  refine (zkidsUntouched _ b (nil_cell HBu.out HN.out 23 (by omega) (by omega) (by omega) (by omega))).mono ?_
  rintro e _ ⟨rfl, rfl⟩
  go_wp2_with fail
  refine (znodesUntouched _ b (nil_cell HBu.out HN.out 26 (by omega) (by omega) (by omega) (by omega))).mono ?_
  rintro e _ ⟨rfl, rfl⟩
  go_wp2_with fail
  refine (zwritesUntouched _ b (nil_cell HBu.out HN.out 29 (by omega) (by omega) (by omega) (by omega))).mono ?_
  rintro e _ ⟨rfl, rfl⟩
  go_wp2_with fail
  refine (zchangesUntouched _ b (nil_cell HBu.out HN.out 32 (by omega) (by omega) (by omega) (by omega))).mono ?_
  rintro e _ ⟨rfl, rfl⟩
  go_wp2_with fail
  refine (zfatesUntouched _ b (nil_cell HBu.out HN.out 35 (by omega) (by omega) (by omega) (by omega))).mono ?_
  rintro e _ ⟨rfl, rfl⟩
  go_wp2_with fail
  refine (zopsUntouched _ b (nil_cell HBu.out HN.out 38 (by omega) (by omega) (by omega) (by omega))).mono ?_
  rintro e _ ⟨rfl, rfl⟩
  go_wp2_with fail
  go_ret
  exact ⟨rfl, HCu.out⟩

set_option maxRecDepth 100000 in
set_option maxHeartbeats 8000000 in
theorem write_any (w : World) (own : Own) (b : Nat) (F : Nat → Value) (hb : BookF 46 w own b F) (hn : Nils F) (hbase : F 0 = .int .i64 0) (c : Int) (hc : F 1 = .int .i64 c) (hcc : 0 ≤ c ∧ c ≤ 1) (rv : Value) (xs : List (Value × Nat)) (hrv : F 5 = rv) (hx : RowK w own 22 5 rv xs)
    (h1 : xs.length ≤ 1000000) (hX : Lists w own 3 3 1 xs (fun _ _ _ => True)) (hsx : ∀ x ∈ xs, x.2 ≤ 134217728) :
    Calls Tryz.prog 26 #[.pointer (some ⟨b, 0, none⟩)] w fun e w' => e = .returned (.tuple #[]) ∧ OStep (fun r => r.1 = 3) w own w' own ∧ Lists w' own 3 3 1 xs (fun i n cs => cs = intsmarks c (0 + i + 1) n) := by
  have HB := Lib.hid hb
  have HN := Lib.hid hn
  have HC := Lib.hid hc
  have HRv := Lib.hid hrv
  have HX := Lib.hid hx
  have HXL := Lib.hid hX
  have HSx := Lib.hid hsx
  have k0 := hb.cell 0 (by omega)
  rw [hbase] at k0
  obtain ⟨id1, hid1⟩ : ∃ id1 : Int, id1 = 0 + xs.length := ⟨_, rfl⟩
  have HId := Lib.hid hid1
  clear hb hn hbase hc hrv hx hX hsx hid1
  go_enter Tryz.func26, Tryz.ntmps26
  go_wp2_with fail
  refine (zbytesWrite _ b _ (nil_cell HB.out HN.out 2 (by omega) (by omega) (by omega) (by omega))).mono ?_
  rintro e _ ⟨rfl, rfl⟩
  go_wp2_with fail
  refine (intswrite_any _ own b F HB.out c HC.out hcc rv xs HRv.out HX.out 0 (by omega) (by omega) HXL.out HSx.out).mono ?_
  rintro e wu ⟨rfl, hst, hL⟩
  rw [← HId.out]
  have HSt := Lib.hid hst
  have HL := Lib.hid hL
  have HBu := Lib.hid (HB.out.step hst (by decide))
  clear hst hL
  go_wp2_with fail
  refine (ztextsWrite _ b _ (nil_cell HBu.out HN.out 8 (by omega) (by omega) (by omega) (by omega))).mono ?_
  rintro e _ ⟨rfl, rfl⟩
  go_wp2_with fail
  refine (zbyteListsWrite _ b _ (nil_cell HBu.out HN.out 11 (by omega) (by omega) (by omega) (by omega))).mono ?_
  rintro e _ ⟨rfl, rfl⟩
  go_wp2_with fail
  refine (zintListsWrite _ b _ (nil_cell HBu.out HN.out 14 (by omega) (by omega) (by omega) (by omega))).mono ?_
  rintro e _ ⟨rfl, rfl⟩
  go_wp2_with fail
  refine (zpairsWrite _ b _ (nil_cell HBu.out HN.out 17 (by omega) (by omega) (by omega) (by omega))).mono ?_
  rintro e _ ⟨rfl, rfl⟩
  go_wp2_with fail
  refine (zitemsWrite _ b _ (nil_cell HBu.out HN.out 20 (by omega) (by omega) (by omega) (by omega))).mono ?_
  rintro e _ ⟨rfl, rfl⟩
  go_wp2_with fail
  refine (zkidsWrite _ b _ (nil_cell HBu.out HN.out 23 (by omega) (by omega) (by omega) (by omega))).mono ?_
  rintro e _ ⟨rfl, rfl⟩
  go_wp2_with fail
  refine (znodesWrite _ b _ (nil_cell HBu.out HN.out 26 (by omega) (by omega) (by omega) (by omega))).mono ?_
  rintro e _ ⟨rfl, rfl⟩
  go_wp2_with fail
  refine (zwritesWrite _ b _ (nil_cell HBu.out HN.out 29 (by omega) (by omega) (by omega) (by omega))).mono ?_
  rintro e _ ⟨rfl, rfl⟩
  go_wp2_with fail
  refine (zchangesWrite _ b _ (nil_cell HBu.out HN.out 32 (by omega) (by omega) (by omega) (by omega))).mono ?_
  rintro e _ ⟨rfl, rfl⟩
  go_wp2_with fail
  refine (zfatesWrite _ b _ (nil_cell HBu.out HN.out 35 (by omega) (by omega) (by omega) (by omega))).mono ?_
  rintro e _ ⟨rfl, rfl⟩
  go_wp2_with fail
  refine (zopsWrite _ b _ (nil_cell HBu.out HN.out 38 (by omega) (by omega) (by omega) (by omega))).mono ?_
  rintro e _ ⟨rfl, rfl⟩
  go_wp2_with fail
  go_end0
  exact ⟨rfl, HSt.out, HL.out⟩

set_option maxRecDepth 100000 in
set_option maxHeartbeats 8000000 in
theorem holds_any (w : World) (own : Own) (b : Nat) (F G : Nat → Value) (hb : BookF 46 w own b G) (hn : Nils F) (hG : ∀ i, i ≠ 7 → G i = F i) (hbase : F 0 = .int .i64 0) (c : Int) (hc : F 1 = .int .i64 c) (hcc : 0 ≤ c ∧ c ≤ 1) (rv gv : Value) (xs gs : List (Value × Nat)) (hrv : F 5 = rv) (hgv : G 7 = gv) (hx : RowK w own 22 5 rv xs) (hg : RowK w own 22 7 gv gs) (hgl : gs = [] ∨ gs.length = xs.length)
    (h1 : xs.length ≤ 1000000) (hX : Lists w own 3 3 1 xs (fun i n cs => cs = intsmarks c (0 + i + 1) n)) (hGL : Lists w own 3 3 1 gs (fun i n cs => cs = intsmarks c (0 + i + 1) n)) (hsx : ∀ x ∈ xs, x.2 ≤ 134217728) (hsg : ∀ x ∈ gs, x.2 ≤ 134217728) :
    Calls Tryz.prog 27 #[.pointer (some ⟨b, 0, none⟩)] w fun e w' => e = .returned (.bool true) ∧ w = w' := by
  have HB := Lib.hid hb
  have HN := Lib.hid hn
  have HG0 := Lib.hid hG
  have HC := Lib.hid ((hG 1 (by decide)).trans hc)
  have HRv := Lib.hid ((hG 5 (by decide)).trans hrv)
  have HGv := Lib.hid hgv
  have HX := Lib.hid hx
  have HGg := Lib.hid hg
  have HGl := Lib.hid hgl
  have HXL := Lib.hid hX
  have HGL := Lib.hid hGL
  have HSx := Lib.hid hsx
  have HSg := Lib.hid hsg
  have k0 := hb.cell 0 (by omega)
  rw [hG 0 (by decide), hbase] at k0
  have HZ : Hid (∀ i, 2 ≤ i → i < 41 → i ≠ 5 → i ≠ 6 → i ≠ 7 → w.cell? ⟨b, i, none⟩ = some (.slice none 0 0)) := Lib.hid (fun i a1 a2 a3 a4 a5 => by rw [HB.out.cell i a2, hG i a5, hn i a1 a2 a3 a4])
  obtain ⟨id1, hid1⟩ : ∃ id1 : Int, id1 = 0 + xs.length := ⟨_, rfl⟩
  have HId := Lib.hid hid1
  clear hb hn hG hbase hc hrv hgv hx hg hgl hX hGL hsx hsg hid1
  go_enter Tryz.func27, Tryz.ntmps27
  go_wp2_with fail
  refine (zbytesHold _ b _ (HZ.out 2 (by omega) (by omega) (by omega) (by omega) (by omega))).mono ?_
  rintro e _ ⟨rfl, rfl⟩
  go_wp2_with fail
  refine (intshold_any _ own b G HB.out c HC.out hcc rv gv xs gs HRv.out HGv.out HX.out HGg.out HGl.out 0 (by omega) (by omega) HXL.out HGL.out HSx.out HSg.out).mono ?_
  rintro e _ ⟨rfl, rfl⟩
  rw [← HId.out]
  go_wp2_with fail
  refine (ztextsHold _ b _ (HZ.out 8 (by omega) (by omega) (by omega) (by omega) (by omega))).mono ?_
  rintro e _ ⟨rfl, rfl⟩
  go_wp2_with fail
  refine (zbyteListsHold _ b _ (HZ.out 11 (by omega) (by omega) (by omega) (by omega) (by omega))).mono ?_
  rintro e _ ⟨rfl, rfl⟩
  go_wp2_with fail
  refine (zintListsHold _ b _ (HZ.out 14 (by omega) (by omega) (by omega) (by omega) (by omega))).mono ?_
  rintro e _ ⟨rfl, rfl⟩
  go_wp2_with fail
  refine (zpairsHold _ b _ (HZ.out 17 (by omega) (by omega) (by omega) (by omega) (by omega))).mono ?_
  rintro e _ ⟨rfl, rfl⟩
  go_wp2_with fail
  refine (zitemsHold _ b _ (HZ.out 20 (by omega) (by omega) (by omega) (by omega) (by omega))).mono ?_
  rintro e _ ⟨rfl, rfl⟩
  go_wp2_with fail
  refine (zkidsHold _ b _ (HZ.out 23 (by omega) (by omega) (by omega) (by omega) (by omega))).mono ?_
  rintro e _ ⟨rfl, rfl⟩
  go_wp2_with fail
  refine (znodesHold _ b _ (HZ.out 26 (by omega) (by omega) (by omega) (by omega) (by omega))).mono ?_
  rintro e _ ⟨rfl, rfl⟩
  go_wp2_with fail
  refine (zwritesHold _ b _ (HZ.out 29 (by omega) (by omega) (by omega) (by omega) (by omega))).mono ?_
  rintro e _ ⟨rfl, rfl⟩
  go_wp2_with fail
  refine (zchangesHold _ b _ (HZ.out 32 (by omega) (by omega) (by omega) (by omega) (by omega))).mono ?_
  rintro e _ ⟨rfl, rfl⟩
  go_wp2_with fail
  refine (zfatesHold _ b _ (HZ.out 35 (by omega) (by omega) (by omega) (by omega) (by omega))).mono ?_
  rintro e _ ⟨rfl, rfl⟩
  go_wp2_with fail
  refine (zopsHold _ b _ (HZ.out 38 (by omega) (by omega) (by omega) (by omega) (by omega))).mono ?_
  rintro e _ ⟨rfl, rfl⟩
  go_wp2_with fail
  go_ret
  exact ⟨rfl, rfl⟩

theorem intsGrowing.turn {w : World} {own : Own} {c id0 : Int} {t : Nat} {xs gs : List (Value × Nat)} (h : intsGrowing w own c id0 t xs.length xs.length xs gs) : intsGrowing w own c id0 (t + 1) 0 (lenG (t + 1) 0 xs.length) xs gs :=
  ⟨by unfold lenG; rw [if_neg (by omega)]; exact h.len, fun k x y hx hy => by
    have := h.each k x y hx hy
    rw [if_pos (List.getElem?_eq_some_iff.1 hx).1] at this
    rw [if_neg (by omega)]; omega, h.lx, h.lg⟩
set_option maxRecDepth 100000 in
set_option maxHeartbeats 8000000 in
theorem grow_any (w : World) (own : Own) (b : Nat) (F : Nat → Value) (hb : BookF 46 w own b F) (hn : Nils F) (hbase : F 0 = .int .i64 0) (c : Int) (hc : F 1 = .int .i64 c) (hcc : 0 ≤ c ∧ c ≤ 1) (rv : Value) (xs : List (Value × Nat)) (hrv : F 5 = rv) (hx : RowK w own 22 5 rv xs)
    (h1 : xs.length ≤ 1000000) (hX : Lists w own 3 3 1 xs (fun i n cs => cs = intsmarks c (0 + i + 1) n)) (hsx : ∀ x ∈ xs, x.2 ≤ 134217728) :
    Calls Tryz.prog 28 #[.pointer (some ⟨b, 0, none⟩)] w fun e w' => e = .returned (.tuple #[]) ∧ intsGrewS w own b F c 0 70 0 (lenG 70 0 xs.length) rv xs w' := by
  have HN := Lib.hid hn
  have HC := Lib.hid hc
  have HRv := Lib.hid hrv
  have HSx := Lib.hid hsx
  have HBs := Lib.hid hbase
  have HS0 : Hid (intsGrewS w own b F c 0 0 0 (lenG 0 0 xs.length) rv xs w) := Lib.hid (by
    have hg : F 7 = .slice none 0 0 := hn 7 (by omega) (by omega) (by omega) (by omega)
    have hs : setF F 7 (.slice none 0 0) = F := by funext j; unfold setF; split; (rename_i e; rw [e, hg]); rfl
    exact ⟨own, .slice none 0 0, [], by rw [hs]; exact hb, hx, row_nil _ _ _ _, ⟨rfl, fun k x y hx hy => by simp at hy, hX, Lists.nil _ _ _ _ _ _⟩, OStep.refl _ hb.lt⟩)
  obtain ⟨id1, hid1⟩ : ∃ id1 : Int, id1 = 0 + xs.length := ⟨_, rfl⟩
  have HId := Lib.hid hid1
  clear hb hn hbase hc hrv hx hX hsx hid1
  go_enter Tryz.func28, Tryz.ntmps28
  go_wp2_with fail
  go_loopg [2, 3] 70 (fun gm tv _ wr => ∃ (t : Nat), t ≤ 70 ∧ gm = 70 - t ∧ tv = .int .i64 t ∧ intsGrewS w own b F c 0 t 0 (lenG t 0 xs.length) rv xs wr)
  case atStart => exact ⟨0, by omega, rfl, rfl, HS0.out⟩
  case round =>
    obtain ⟨t, ht, hgm, rfl, hS⟩ := hrel
    have Hg := Lib.hid hgm
    have HS := Lib.hid hS
    obtain ⟨own1, gv1, gs1, hb1, _, _, _, _⟩ := hS
    have k0 : wr.cell? ⟨b, 0, none⟩ = some (.int .i64 0) := by rw [hb1.cell 0 (by omega), setF_other (by decide), HBs.out]
    have HZ : Hid (∀ i, 2 ≤ i → i < 41 → i ≠ 5 → i ≠ 6 → i ≠ 7 → wr.cell? ⟨b, i, none⟩ = some (.slice none 0 0)) := Lib.hid (fun i a1 a2 a3 a4 a5 => by rw [hb1.cell i a2, setF_other a5, HN.out i a1 a2 a3 a4])
    clear hgm hb1
    by_cases hlt : t < 70
    · have hti : (t : Int) < 70 := by omega
      go_wp2_with fail
      refine (zbytesGrow _ b _ _ (HZ.out 2 (by omega) (by omega) (by omega) (by omega) (by omega))).mono ?_
      rintro e _ ⟨rfl, rfl⟩
      go_wp2_with fail
      refine (intsgrow_from w own b F c HC.out hcc rv xs HRv.out t hlt 0 (by omega) (by omega) HSx.out wr HS.out).mono ?_
      rintro e wu ⟨rfl, hS2⟩
      rw [← HId.out]
      have HS2 := Lib.hid hS2
      obtain ⟨own2, gv2, gs2, hb2, _, _, _, _⟩ := hS2
      have HZ2 : Hid (∀ i, 2 ≤ i → i < 41 → i ≠ 5 → i ≠ 6 → i ≠ 7 → wu.cell? ⟨b, i, none⟩ = some (.slice none 0 0)) := Lib.hid (fun i a1 a2 a3 a4 a5 => by rw [hb2.cell i a2, setF_other a5, HN.out i a1 a2 a3 a4])
      clear hb2
      go_wp2_with fail
      refine (ztextsGrow _ b _ _ (HZ2.out 8 (by omega) (by omega) (by omega) (by omega) (by omega))).mono ?_
      rintro e _ ⟨rfl, rfl⟩
      go_wp2_with fail
      refine (zbyteListsGrow _ b _ _ (HZ2.out 11 (by omega) (by omega) (by omega) (by omega) (by omega))).mono ?_
      rintro e _ ⟨rfl, rfl⟩
      go_wp2_with fail
      refine (zintListsGrow _ b _ _ (HZ2.out 14 (by omega) (by omega) (by omega) (by omega) (by omega))).mono ?_
      rintro e _ ⟨rfl, rfl⟩
      go_wp2_with fail
      refine (zpairsGrow _ b _ _ (HZ2.out 17 (by omega) (by omega) (by omega) (by omega) (by omega))).mono ?_
      rintro e _ ⟨rfl, rfl⟩
      go_wp2_with fail
      refine (zitemsGrow _ b _ _ (HZ2.out 20 (by omega) (by omega) (by omega) (by omega) (by omega))).mono ?_
      rintro e _ ⟨rfl, rfl⟩
      go_wp2_with fail
      refine (zkidsGrow _ b _ _ (HZ2.out 23 (by omega) (by omega) (by omega) (by omega) (by omega))).mono ?_
      rintro e _ ⟨rfl, rfl⟩
      go_wp2_with fail
      refine (znodesGrow _ b _ _ (HZ2.out 26 (by omega) (by omega) (by omega) (by omega) (by omega))).mono ?_
      rintro e _ ⟨rfl, rfl⟩
      go_wp2_with fail
      refine (zwritesGrow _ b _ _ (HZ2.out 29 (by omega) (by omega) (by omega) (by omega) (by omega))).mono ?_
      rintro e _ ⟨rfl, rfl⟩
      go_wp2_with fail
      refine (zchangesGrow _ b _ _ (HZ2.out 32 (by omega) (by omega) (by omega) (by omega) (by omega))).mono ?_
      rintro e _ ⟨rfl, rfl⟩
      go_wp2_with fail
      refine (zfatesGrow _ b _ _ (HZ2.out 35 (by omega) (by omega) (by omega) (by omega) (by omega))).mono ?_
      rintro e _ ⟨rfl, rfl⟩
      go_wp2_with fail
      refine (zopsGrow _ b _ _ (HZ2.out 38 (by omega) (by omega) (by omega) (by omega) (by omega))).mono ?_
      rintro e _ ⟨rfl, rfl⟩
      go_wp2_with fail
      go_roundg (70 - (t + 1))
      case measure => have := Hg.out; omega
      case rel =>
        obtain ⟨own2, gv2, gs2, q1, q2, q3, q4, q5⟩ := HS2.out
        exact ⟨t + 1, by omega, rfl, by go_num, own2, gv2, gs2, q1, q2, q3, q4.turn, q5⟩
    · have hti : ¬ (t : Int) < 70 := by omega
      have ht70 : t = 70 := by omega
      subst ht70
      go_wp2_with fail
      go_end0
      exact ⟨rfl, HS.out⟩

set_option maxRecDepth 100000 in
set_option maxHeartbeats 8000000 in
theorem finish_any (w : World) (own : Own) (b : Nat) (F : Nat → Value) (hb : BookF 46 w own b F) (hn : Nils F) (hbase : F 0 = .int .i64 0) (hpass : F 1 = .int .i64 0) (rv wv : Value) (xs ws : List (Value × Nat)) (cc : List (List Int)) (hrv : F 5 = rv) (hwv : F 6 = wv) (hk : intsKept w own rv wv xs ws cc) (hl : cc.length ≤ 1000000) (hsz : ∀ bs ∈ cc, bs.length ≤ 134217000) :
    Calls Tryz.prog 15 #[.pointer (some ⟨b, 0, none⟩)] w fun e w' => e = .returned (.bool true) ∧ Chg (fun g => ∃ r, own g = some r) w w' := by
  have HB := Lib.hid hb
  have HN := Lib.hid hn
  have HBs := Lib.hid hbase
  have HPs := Lib.hid hpass
  have HK := Lib.hid hk
  have HRv := Lib.hid hrv
  have HWv := Lib.hid hwv
  have HSz := Lib.hid hsz
  have hlx : xs.length ≤ 1000000 := by rw [hk.lx]; exact hl
  have HX := Lib.hid hk.rx
  have HL0 : Hid (Lists w own 3 3 1 xs (fun _ _ _ => True)) := Lib.hid (fun i x hx => by
    obtain ⟨bs, hbs⟩ : ∃ bs, cc[i]? = some bs := ⟨_, List.getElem?_eq_getElem (by rw [← hk.lx]; exact (List.getElem?_eq_some_iff.1 hx).1)⟩
    obtain ⟨h1, h2, h3⟩ := hk.lists i x bs hx hbs
    rw [h1]
    exact ⟨_, h2, trivial, h3⟩)
  have HSx : Hid (∀ x ∈ xs, x.2 ≤ 134217000) := Lib.hid (fun x hx => by
    obtain ⟨i, hi, e⟩ := List.getElem_of_mem hx
    have hx' : xs[i]? = some x := by rw [List.getElem?_eq_getElem hi, e]
    obtain ⟨bs, hbs⟩ : ∃ bs, cc[i]? = some bs := ⟨_, List.getElem?_eq_getElem (by rw [← hk.lx]; exact hi)⟩
    rw [(hk.lists i x bs hx' hbs).1]
    exact hsz bs (List.mem_of_getElem? hbs))
  have HSx1 : Hid (∀ x ∈ xs, x.2 ≤ 134217728) := Lib.hid (fun x hx => by have := HSx.out x hx; omega)
  clear hb hn hbase hpass hk hrv hwv hsz
  go_enter Tryz.func15, Tryz.ntmps15
  go_wp2_with fail
  refine (untouched_any _ own b F HB.out HN.out rv wv xs ws cc HRv.out HWv.out HK.out hl (fun bs h => by have := HSz.out bs h; omega)).mono ?_
  rintro e w1 ⟨rfl, hc1⟩
  have HC1 := Lib.hid hc1
  have HB1 := Lib.hid (HB.out.chg0ints hc1)
  have HX1 := Lib.hid ((HK.out.chg0 hc1).rx)
  have HS1 : Hid (OStep (fun _ => False) w own w1 own) := Lib.hid (OStep.of0 HB.out.lt hc1)
  have HL1 := Lib.hid (HL0.out.step HS1.out (fun _ f => f))
  clear hc1
  go_wp2_with fail
  refine (write_any _ own b F HB1.out HN.out HBs.out 0 HPs.out (by omega) rv xs HRv.out HX1.out hlx HL1.out HSx1.out).mono ?_
  rintro e w2 ⟨rfl, hst2, hL2⟩
  have HS2 := Lib.hid hst2
  have HL2 := Lib.hid hL2
  have HB2 := Lib.hid (HB1.out.step hst2 (by decide))
  have HX2 := Lib.hid (HX1.out.step hst2 (by decide))
  have kp : w2.cell? ⟨b, 1, none⟩ = some (.int .i64 0) := by rw [(HB1.out.step hst2 (by decide)).cell 1 (by omega), HPs.out]
  have kf : w2.frozen? ⟨b, 1, none⟩ = false := (HB1.out.step hst2 (by decide)).frozen 1
  clear hst2 hL2
  go_wp2_with fail
  refine (holds_any _ own b F F HB2.out HN.out (fun _ _ => rfl) HBs.out 0 HPs.out (by omega) rv (.slice none 0 0) xs [] HRv.out (HN.out 7 (by omega) (by omega) (by omega) (by omega)) HX2.out (row_nil _ _ _ _) (.inl rfl) hlx HL2.out (Lists.nil _ _ _ _ _ _) HSx1.out (fun x hx => by cases hx)).mono ?_
  rintro e _ ⟨rfl, rfl⟩
  go_wp2_with fail
  obtain ⟨w3, hw3⟩ : ∃ w3, w3 = w2.setCell ⟨b, 1, none⟩ (.int .i64 1) := ⟨_, rfl⟩
  rw [← hw3]
  have HS3 : Hid (OStep (fun r => r = (0, 0)) w2 own w3 own) := Lib.hid (by rw [hw3]; exact OStep.set (R := fun r => r = (0, 0)) HB2.out.lt HB2.out.role rfl _)
  have HB3 : Hid (BookF 46 w3 own b (setF F 1 (.int .i64 1))) := Lib.hid (by rw [hw3]; exact HB2.out.set 1 _ (by omega))
  have HN3 : Hid (Nils (setF F 1 (.int .i64 1))) := Lib.hid (fun i h1 h2 h3 h4 => by rw [setF_other (by omega)]; exact HN.out i h1 h2 h3 h4)
  have HX3 := Lib.hid (HX2.out.step HS3.out (by decide))
  have HL3 : Hid (Lists w3 own 3 3 1 xs (fun _ _ _ => True)) := Lib.hid ((HL2.out.step HS3.out (fun i e => by simp at e)).mono (fun i x cs _ _ => trivial))
  clear hw3 kp kf
  refine (write_any _ own b _ HB3.out HN3.out (by rw [setF_other (by decide)]; exact HBs.out) 1 (setF_same _ _ _) (by omega) rv xs (by rw [setF_other (by decide)]; exact HRv.out) HX3.out hlx HL3.out HSx1.out).mono ?_
  rintro e w4 ⟨rfl, hst4, hL4⟩
  have HS4 := Lib.hid hst4
  have HL4 := Lib.hid hL4
  have HB4 := Lib.hid (HB3.out.step hst4 (by decide))
  have HX4 := Lib.hid (HX3.out.step hst4 (by decide))
  clear hst4 hL4
  go_wp2_with fail
  refine (holds_any _ own b (setF F 1 (.int .i64 1)) _ HB4.out HN3.out (fun _ _ => rfl) (by rw [setF_other (by decide)]; exact HBs.out) 1 (setF_same _ _ _) (by omega) rv (.slice none 0 0) xs [] (by rw [setF_other (by decide)]; exact HRv.out) (HN3.out 7 (by omega) (by omega) (by omega) (by omega)) HX4.out (row_nil _ _ _ _) (.inl rfl) hlx HL4.out (Lists.nil _ _ _ _ _ _) HSx1.out (fun x hx => by cases hx)).mono ?_
  rintro e _ ⟨rfl, rfl⟩
  go_wp2_with fail
  refine (grow_any _ own b _ HB4.out HN3.out (by rw [setF_other (by decide)]; exact HBs.out) 1 (setF_same _ _ _) (by omega) rv xs (by rw [setF_other (by decide)]; exact HRv.out) HX4.out hlx HL4.out HSx1.out).mono ?_
  rintro e w5 ⟨rfl, own5, gv5, gs5, hb5, hx5, hg5, hG5, hst5⟩
  have HB5 := Lib.hid hb5
  have HX5 := Lib.hid hx5
  have HG5 := Lib.hid hg5
  have HGr5 := Lib.hid hG5
  have HS5 := Lib.hid hst5
  have HLen5 : Hid (gs5.length = xs.length) := Lib.hid hG5.len
  have HSg5 : Hid (∀ x ∈ gs5, x.2 ≤ 134217728) := Lib.hid (fun y hy => by
    obtain ⟨i, hi, e⟩ := List.getElem_of_mem hy
    have hy' : gs5[i]? = some y := by rw [List.getElem?_eq_getElem hi, e]
    obtain ⟨x, hx⟩ : ∃ x, xs[i]? = some x := ⟨_, List.getElem?_eq_getElem (by have := HLen5.out; omega)⟩
    have h1 := hG5.each i x y hx hy'
    rw [if_neg (by omega)] at h1
    have := HSx.out x (List.mem_of_getElem? hx)
    omega)
  clear hb5 hx5 hg5 hG5 hst5
  go_wp2_with fail
  refine (holds_any _ own5 b (setF F 1 (.int .i64 1)) _ HB5.out HN3.out (fun i hi => setF_other hi) (by rw [setF_other (by decide)]; exact HBs.out) 1 (setF_same _ _ _) (by omega) rv gv5 xs gs5 (by rw [setF_other (by decide)]; exact HRv.out) (setF_same _ _ _) HX5.out HG5.out (.inr HLen5.out) hlx HGr5.out.lx HGr5.out.lg HSx1.out HSg5.out).mono ?_
  rintro e _ ⟨rfl, rfl⟩
  go_wp2_with fail
  go_ret
  have all : ∀ {R : Nat × Nat → Prop} {wa wb : World} {ob : Own}, OStep R wa own wb ob → Chg (fun g => ∃ r, own g = some r) wa wb := fun h => h.chg.mono (fun g ⟨r, e, _⟩ => ⟨r, e⟩)
  exact ⟨rfl, ((((HC1.out.mono (fun _ f => f.elim)).trans (all HS2.out) (fun _ => .inl)).trans (all HS3.out) (fun _ => .inl)).trans (all HS4.out) (fun _ => .inl)).trans (all HS5.out) (fun _ => .inl)⟩
end Go.Proofs.YtipclbibomemjaaGreatDoor
