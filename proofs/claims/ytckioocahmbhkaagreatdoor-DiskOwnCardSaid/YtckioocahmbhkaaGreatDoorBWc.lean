/- Walks: a book that keeps lists of bytes and lists of writes: untouched, written over, looked at, grown, finished. (Printed by comp2w.py.) -/
import Derived.Test.YtckioocahmbhkaaGreatDoorBWw7
import Derived.Test.YtckioocahmbhkaaGreatDoorBWz
namespace Go.Proofs.YtckioocahmbhkaaGreatDoor
open Go Go.RowKit Go.Maps

def Nils (F : Nat → Value) : Prop := ∀ i, 2 ≤ i → i < 41 → i ≠ 2 → i ≠ 3 → i ≠ 29 → i ≠ 30 → F i = .slice none 0 0
theorem nil_cell {w : World} {own : BOwn} {b : Nat} {F : Nat → Value} (hb : BookF 39 w own b F) (hn : Nils F) (i : Nat) (h1 : 2 ≤ i) (h2 : i < 41) (h3 : i ≠ 2) (h4 : i ≠ 3) (h5 : i ≠ 29) (h6 : i ≠ 30) : w.cell? ⟨b, i, none⟩ = some (.slice none 0 0) := by
  rw [hb.cell i h2, hn i h1 h2 h3 h4 h5 h6]

set_option maxRecDepth 100000 in
set_option maxHeartbeats 8000000 in
theorem untouched_any (w : World) (own : BOwn) (b : Nat) (F : Nat → Value) (hb : BookF 39 w own b F) (hn : Nils F) (rvb wvb : Value) (xsb wsb : List (Value × Nat)) (ccb : List (List UInt8)) (h2 : F 2 = rvb) (h3 : F 3 = wvb) (hkb : bytesKept w own rvb wvb xsb wsb ccb) (hlb : ccb.length ≤ 900000) (hsb : ∀ bs ∈ ccb, bs.length ≤ 134217728)
    (rv wv : Value) (xs ws : List (Value × Nat)) (cc : List (List (Nat × List UInt8))) (h17 : F 29 = rv) (h18 : F 30 = wv) (hk : WKept w own rv wv xs ws cc) (hl : cc.length ≤ 1000) (hsz : ∀ bs ∈ cc, bs.length ≤ 1000000) :
    Calls Tryz.prog 29 #[.pointer (some ⟨b, 0, none⟩)] w fun e w' => e = .returned (.bool true) ∧ Chg (fun _ => False) w w' := by
  have HB := Lib.hid hb
  have HN := Lib.hid hn
  have HKb := Lib.hid hkb
  have HK := Lib.hid hk
  have H2 := Lib.hid h2
  have H3 := Lib.hid h3
  have H17 := Lib.hid h17
  have H18 := Lib.hid h18
  have HSb := Lib.hid hsb
  have HSz := Lib.hid hsz
  clear hb hn hkb hk h2 h3 h17 h18 hsb hsz
  go_enter Tryz.func29, Tryz.ntmps29
  go_wp2_with fail
  refine (bytesuntouched_any _ own b F HB.out rvb wvb xsb wsb ccb H2.out H3.out HKb.out (by omega) HSb.out).mono ?_
  rintro e wu ⟨rfl, hcu⟩
  have HCu := Lib.hid hcu
  have HBu := Lib.hid (HB.out.step (OStep.of0 (R := fun _ => False) HB.out.lt hcu) (fun f => f))
  have HKu := Lib.hid (HK.out.chg0 hcu)
  clear hcu
  go_wp2_with fail
  refine (zintsUntouched _ b (nil_cell HBu.out HN.out 5 (by omega) (by omega) (by omega) (by omega) (by omega) (by omega))).mono ?_
  rintro e _ ⟨rfl, rfl⟩
  go_wp2_with fail
  refine (ztextsUntouched _ b (nil_cell HBu.out HN.out 8 (by omega) (by omega) (by omega) (by omega) (by omega) (by omega))).mono ?_
  rintro e _ ⟨rfl, rfl⟩
  go_wp2_with fail
  refine (zbyteListsUntouched _ b (nil_cell HBu.out HN.out 11 (by omega) (by omega) (by omega) (by omega) (by omega) (by omega))).mono ?_
  rintro e _ ⟨rfl, rfl⟩
  go_wp2_with fail
  refine (zintListsUntouched _ b (nil_cell HBu.out HN.out 14 (by omega) (by omega) (by omega) (by omega) (by omega) (by omega))).mono ?_
  rintro e _ ⟨rfl, rfl⟩
  go_wp2_with fail
  refine (zpairsUntouched _ b (nil_cell HBu.out HN.out 17 (by omega) (by omega) (by omega) (by omega) (by omega) (by omega))).mono ?_
  rintro e _ ⟨rfl, rfl⟩
  go_wp2_with fail
  refine (zitemsUntouched _ b (nil_cell HBu.out HN.out 20 (by omega) (by omega) (by omega) (by omega) (by omega) (by omega))).mono ?_
  rintro e _ ⟨rfl, rfl⟩
  go_wp2_with fail
  refine (zkidsUntouched _ b (nil_cell HBu.out HN.out 23 (by omega) (by omega) (by omega) (by omega) (by omega) (by omega))).mono ?_
  rintro e _ ⟨rfl, rfl⟩
  go_wp2_with fail
  refine (znodesUntouched _ b (nil_cell HBu.out HN.out 26 (by omega) (by omega) (by omega) (by omega) (by omega) (by omega))).mono ?_
  rintro e _ ⟨rfl, rfl⟩
  go_wp2_with fail
  refine (writesuntouched_any _ own b F HBu.out rv wv xs ws cc H17.out H18.out HKu.out (by omega) HSz.out).mono ?_
  rintro e wv2 ⟨rfl, hcu⟩
  have HCv := Lib.hid (HCu.out.trans hcu (fun _ f => f.elim))
  have HBv := Lib.hid (HBu.out.step (OStep.of0 (R := fun _ => False) HBu.out.lt hcu) (fun f => f))
  clear hcu
  go_wp2_with fail
  refine (zchangesUntouched _ b (nil_cell HBv.out HN.out 32 (by omega) (by omega) (by omega) (by omega) (by omega) (by omega))).mono ?_
  rintro e _ ⟨rfl, rfl⟩
  go_wp2_with fail
  refine (zfatesUntouched _ b (nil_cell HBv.out HN.out 35 (by omega) (by omega) (by omega) (by omega) (by omega) (by omega))).mono ?_
  rintro e _ ⟨rfl, rfl⟩
  go_wp2_with fail
  refine (zopsUntouched _ b (nil_cell HBv.out HN.out 38 (by omega) (by omega) (by omega) (by omega) (by omega) (by omega))).mono ?_
  rintro e _ ⟨rfl, rfl⟩
  go_wp2_with fail
  go_ret
  exact ⟨rfl, HCv.out⟩

set_option maxRecDepth 100000 in
set_option maxHeartbeats 8000000 in
theorem bwrite_any (w : World) (own : BOwn) (b : Nat) (F : Nat → Value) (hb : BookF 39 w own b F) (hn : Nils F) (hbase : F 0 = .int .i64 0) (c : Int) (hc : F 1 = .int .i64 c) (hcc : 0 ≤ c ∧ c ≤ 1)
    (rvb : Value) (xsb : List (Value × Nat)) (h2 : F 2 = rvb) (hxb : RowK w own 47 2 rvb xsb) (hlb : xsb.length ≤ 900000) (hXb : Lists w own 2 5 1 xsb (fun _ _ _ => True)) (hsb : ∀ x ∈ xsb, x.2 ≤ 134217728)
    (rv : Value) (xs : List (Value × Nat)) (h17 : F 29 = rv) (hx : RowK w own 54 29 rv xs) (hl : xs.length ≤ 1000) (hX : Lists w own 11 78 2 xs (fun _ _ _ => True)) (hsx : ∀ x ∈ xs, x.2 ≤ 134217728) :
    Calls Tryz.prog 30 #[.pointer (some ⟨b, 0, none⟩)] w fun e w' => e = .returned (.tuple #[]) ∧ OStep (fun r => r.1 = 2 ∨ r.1 = 11) w own w' own ∧ Lists w' own 2 5 1 xsb (fun i n cs => cs = bytesmarks c (0 + i + 1) n) ∧ Lists w' own 11 78 2 xs (fun i n cs => writesRow c ((0 + xsb.length) + i + 1) n cs) := by
  have HB := Lib.hid hb
  have HN := Lib.hid hn
  have HC := Lib.hid hc
  have H2 := Lib.hid h2
  have H17 := Lib.hid h17
  have HXb := Lib.hid hxb
  have HX := Lib.hid hx
  have HLb := Lib.hid hXb
  have HLp := Lib.hid hX
  have HSb := Lib.hid hsb
  have HSx := Lib.hid hsx
  have k0 := hb.cell 0 (by omega)
  rw [hbase] at k0
  obtain ⟨id1, hid1⟩ : ∃ id1 : Int, id1 = 0 + xsb.length := ⟨_, rfl⟩
  obtain ⟨id2, hid2⟩ : ∃ id2 : Int, id2 = id1 + xs.length := ⟨_, rfl⟩
  have HId := Lib.hid hid1
  have HId2 := Lib.hid hid2
  clear hb hn hbase hc h2 h17 hxb hx hXb hX hsb hsx hid1 hid2
  go_enter Tryz.func30, Tryz.ntmps30
  go_wp2_with fail
  refine (byteswrite_any _ own b F HB.out c HC.out hcc rvb xsb H2.out HXb.out 0 (by omega) (by omega) HLb.out HSb.out).mono ?_
  rintro e wu ⟨rfl, hst, hL⟩
  rw [← HId.out]
  have HSt := Lib.hid hst
  have HL := Lib.hid hL
  have HBu := Lib.hid (HB.out.step hst (by decide))
  clear hst hL
  go_wp2_with fail
  refine (zintsWrite _ b _ (nil_cell HBu.out HN.out 5 (by omega) (by omega) (by omega) (by omega) (by omega) (by omega))).mono ?_
  rintro e _ ⟨rfl, rfl⟩
  go_wp2_with fail
  refine (ztextsWrite _ b _ (nil_cell HBu.out HN.out 8 (by omega) (by omega) (by omega) (by omega) (by omega) (by omega))).mono ?_
  rintro e _ ⟨rfl, rfl⟩
  go_wp2_with fail
  refine (zbyteListsWrite _ b _ (nil_cell HBu.out HN.out 11 (by omega) (by omega) (by omega) (by omega) (by omega) (by omega))).mono ?_
  rintro e _ ⟨rfl, rfl⟩
  go_wp2_with fail
  refine (zintListsWrite _ b _ (nil_cell HBu.out HN.out 14 (by omega) (by omega) (by omega) (by omega) (by omega) (by omega))).mono ?_
  rintro e _ ⟨rfl, rfl⟩
  go_wp2_with fail
  refine (zpairsWrite _ b _ (nil_cell HBu.out HN.out 17 (by omega) (by omega) (by omega) (by omega) (by omega) (by omega))).mono ?_
  rintro e _ ⟨rfl, rfl⟩
  go_wp2_with fail
  refine (zitemsWrite _ b _ (nil_cell HBu.out HN.out 20 (by omega) (by omega) (by omega) (by omega) (by omega) (by omega))).mono ?_
  rintro e _ ⟨rfl, rfl⟩
  go_wp2_with fail
  refine (zkidsWrite _ b _ (nil_cell HBu.out HN.out 23 (by omega) (by omega) (by omega) (by omega) (by omega) (by omega))).mono ?_
  rintro e _ ⟨rfl, rfl⟩
  go_wp2_with fail
  refine (znodesWrite _ b _ (nil_cell HBu.out HN.out 26 (by omega) (by omega) (by omega) (by omega) (by omega) (by omega))).mono ?_
  rintro e _ ⟨rfl, rfl⟩
  go_wp2_with fail
  refine (writeswrite_any _ own b F HBu.out c HC.out hcc rv xs H17.out (HX.out.step HSt.out (by decide)) id1 (by rw [HId.out]; omega) (by rw [HId.out]; omega) (HLp.out.step HSt.out (fun i e => by simp at e)) HSx.out).mono ?_
  rintro e wv2 ⟨rfl, hst, hL⟩
  rw [← HId2.out]
  have HSt2 := Lib.hid hst
  have HL2 := Lib.hid hL
  have HBv := Lib.hid (HBu.out.step hst (by decide))
  clear hst hL
  go_wp2_with fail
  refine (zchangesWrite _ b _ (nil_cell HBv.out HN.out 32 (by omega) (by omega) (by omega) (by omega) (by omega) (by omega))).mono ?_
  rintro e _ ⟨rfl, rfl⟩
  go_wp2_with fail
  refine (zfatesWrite _ b _ (nil_cell HBv.out HN.out 35 (by omega) (by omega) (by omega) (by omega) (by omega) (by omega))).mono ?_
  rintro e _ ⟨rfl, rfl⟩
  go_wp2_with fail
  refine (zopsWrite _ b _ (nil_cell HBv.out HN.out 38 (by omega) (by omega) (by omega) (by omega) (by omega) (by omega))).mono ?_
  rintro e _ ⟨rfl, rfl⟩
  go_wp2_with fail
  go_end0
  refine ⟨rfl, (HSt.out.mono (fun r e => .inl e)).trans (HSt2.out.mono (fun r e => .inr e)), HL.out.step HSt2.out (fun i e => by simp at e), ?_⟩
  rw [← HId.out]
  exact HL2.out

set_option maxRecDepth 100000 in
set_option maxHeartbeats 8000000 in
theorem holds_any (w : World) (own : BOwn) (b : Nat) (F G : Nat → Value) (hb : BookF 39 w own b G) (hn : Nils F) (hG : ∀ i, i ≠ 4 → i ≠ 31 → G i = F i) (hbase : F 0 = .int .i64 0) (c : Int) (hc : F 1 = .int .i64 c) (hcc : 0 ≤ c ∧ c ≤ 1)
    (rvb gvb : Value) (xsb gsb : List (Value × Nat)) (h2 : F 2 = rvb) (h4 : G 4 = gvb) (hxb : RowK w own 47 2 rvb xsb) (hgb : RowK w own 47 4 gvb gsb) (hglb : gsb = [] ∨ gsb.length = xsb.length) (hlb : xsb.length ≤ 900000)
    (hXb : Lists w own 2 5 1 xsb (fun i n cs => cs = bytesmarks c (0 + i + 1) n)) (hGb : Lists w own 2 5 1 gsb (fun i n cs => cs = bytesmarks c (0 + i + 1) n)) (hsb : ∀ x ∈ xsb, x.2 ≤ 134217728) (hsgb : ∀ x ∈ gsb, x.2 ≤ 134217728)
    (rv gv : Value) (xs gs : List (Value × Nat)) (h17 : F 29 = rv) (h19 : G 31 = gv) (hx : RowK w own 54 29 rv xs) (hg : RowK w own 54 31 gv gs) (hgl : gs = [] ∨ gs.length = xs.length) (hl : xs.length ≤ 1000)
    (hX : Lists w own 11 78 2 xs (fun i n cs => writesRow c ((0 + xsb.length) + i + 1) n cs)) (hGL : Lists w own 11 78 2 gs (fun i n cs => writesRow c ((0 + xsb.length) + i + 1) n cs)) (hsx : ∀ x ∈ xs, x.2 ≤ 134217728) (hsg : ∀ x ∈ gs, x.2 ≤ 134217728) :
    Calls Tryz.prog 31 #[.pointer (some ⟨b, 0, none⟩)] w fun e w' => e = .returned (.bool true) ∧ Chg (fun _ => False) w w' := by
  have HB := Lib.hid hb
  have HC := Lib.hid ((hG 1 (by decide) (by decide)).trans hc)
  have H2 := Lib.hid ((hG 2 (by decide) (by decide)).trans h2)
  have H4 := Lib.hid h4
  have H17 := Lib.hid ((hG 29 (by decide) (by decide)).trans h17)
  have H19 := Lib.hid h19
  have HXb := Lib.hid hxb
  have HGb := Lib.hid hgb
  have HGlb := Lib.hid hglb
  have HLXb := Lib.hid hXb
  have HLGb := Lib.hid hGb
  have HSb := Lib.hid hsb
  have HSgb := Lib.hid hsgb
  have HX := Lib.hid hx
  have HGg := Lib.hid hg
  have HGl := Lib.hid hgl
  have HLX := Lib.hid hX
  have HLG := Lib.hid hGL
  have HSx := Lib.hid hsx
  have HSg := Lib.hid hsg
  have k0 := hb.cell 0 (by omega)
  rw [hG 0 (by decide) (by decide), hbase] at k0
  have HZ : Hid (∀ wx, Chg (fun _ => False) w wx → ∀ i, 2 ≤ i → i < 41 → i ≠ 2 → i ≠ 3 → i ≠ 29 → i ≠ 30 → i ≠ 4 → i ≠ 31 → wx.cell? ⟨b, i, none⟩ = some (.slice none 0 0)) := Lib.hid (fun wx hx i a1 a2 a3 a4 a5 a6 a7 a8 => bk_cell hx (by rw [HB.out.cell i a2, hG i a7 a8, hn i a1 a2 a3 a4 a5 a6]) (fun f => f))
  obtain ⟨id1, hid1⟩ : ∃ id1 : Int, id1 = 0 + xsb.length := ⟨_, rfl⟩
  obtain ⟨id2, hid2⟩ : ∃ id2 : Int, id2 = id1 + xs.length := ⟨_, rfl⟩
  have HId := Lib.hid hid1
  have HId2 := Lib.hid hid2
  clear hb hn hG hbase hc h2 h4 h17 h19 hxb hgb hglb hXb hGb hsb hsgb hx hg hgl hX hGL hsx hsg hid1 hid2
  go_enter Tryz.func31, Tryz.ntmps31
  go_wp2_with fail
  refine (byteshold_any _ own b G HB.out c HC.out hcc rvb gvb xsb gsb H2.out H4.out HXb.out HGb.out HGlb.out 0 (by omega) (by omega) HLXb.out HLGb.out HSb.out HSgb.out).mono ?_
  rintro e _ ⟨rfl, rfl⟩
  rw [← HId.out]
  go_wp2_with fail
  refine (zintsHold _ b _ (HZ.out _ (Chg.refl _ w) 5 (by omega) (by omega) (by omega) (by omega) (by omega) (by omega) (by omega) (by omega))).mono ?_
  rintro e _ ⟨rfl, rfl⟩
  go_wp2_with fail
  refine (ztextsHold _ b _ (HZ.out _ (Chg.refl _ w) 8 (by omega) (by omega) (by omega) (by omega) (by omega) (by omega) (by omega) (by omega))).mono ?_
  rintro e _ ⟨rfl, rfl⟩
  go_wp2_with fail
  refine (zbyteListsHold _ b _ (HZ.out _ (Chg.refl _ w) 11 (by omega) (by omega) (by omega) (by omega) (by omega) (by omega) (by omega) (by omega))).mono ?_
  rintro e _ ⟨rfl, rfl⟩
  go_wp2_with fail
  refine (zintListsHold _ b _ (HZ.out _ (Chg.refl _ w) 14 (by omega) (by omega) (by omega) (by omega) (by omega) (by omega) (by omega) (by omega))).mono ?_
  rintro e _ ⟨rfl, rfl⟩
  go_wp2_with fail
  refine (zpairsHold _ b _ (HZ.out _ (Chg.refl _ w) 17 (by omega) (by omega) (by omega) (by omega) (by omega) (by omega) (by omega) (by omega))).mono ?_
  rintro e _ ⟨rfl, rfl⟩
  go_wp2_with fail
  refine (zitemsHold _ b _ (HZ.out _ (Chg.refl _ w) 20 (by omega) (by omega) (by omega) (by omega) (by omega) (by omega) (by omega) (by omega))).mono ?_
  rintro e _ ⟨rfl, rfl⟩
  go_wp2_with fail
  refine (zkidsHold _ b _ (HZ.out _ (Chg.refl _ w) 23 (by omega) (by omega) (by omega) (by omega) (by omega) (by omega) (by omega) (by omega))).mono ?_
  rintro e _ ⟨rfl, rfl⟩
  go_wp2_with fail
  refine (znodesHold _ b _ (HZ.out _ (Chg.refl _ w) 26 (by omega) (by omega) (by omega) (by omega) (by omega) (by omega) (by omega) (by omega))).mono ?_
  rintro e _ ⟨rfl, rfl⟩
  go_wp2_with fail
  refine (writeshold_any _ own b G HB.out c HC.out hcc rv gv xs gs H17.out H19.out HX.out HGg.out HGl.out id1 (by rw [HId.out]; omega) (by rw [HId.out]; omega) (by rw [HId.out]; exact HLX.out) (by rw [HId.out]; exact HLG.out) HSx.out HSg.out).mono ?_
  rintro e wu ⟨rfl, hcu⟩
  rw [← HId2.out]
  have HCu := Lib.hid hcu
  clear hcu
  go_wp2_with fail
  refine (zchangesHold _ b _ (HZ.out _ HCu.out 32 (by omega) (by omega) (by omega) (by omega) (by omega) (by omega) (by omega) (by omega))).mono ?_
  rintro e _ ⟨rfl, rfl⟩
  go_wp2_with fail
  refine (zfatesHold _ b _ (HZ.out _ HCu.out 35 (by omega) (by omega) (by omega) (by omega) (by omega) (by omega) (by omega) (by omega))).mono ?_
  rintro e _ ⟨rfl, rfl⟩
  go_wp2_with fail
  refine (zopsHold _ b _ (HZ.out _ HCu.out 38 (by omega) (by omega) (by omega) (by omega) (by omega) (by omega) (by omega) (by omega))).mono ?_
  rintro e _ ⟨rfl, rfl⟩
  go_wp2_with fail
  go_ret
  exact ⟨rfl, HCu.out⟩

/-- The state of growing, ahead of a turn. -/
def Grew2 (w0 : World) (own0 : BOwn) (b : Nat) (F : Nat → Value) (c : Int) (t : Nat) (rvb : Value) (xsb : List (Value × Nat)) (rv : Value) (xs : List (Value × Nat)) (w' : World) : Prop :=
  ∃ (own' : BOwn) (gvb : Value) (gsb : List (Value × Nat)) (gv : Value) (gs : List (Value × Nat)), BookF 39 w' own' b (setF (setF F 4 gvb) 31 gv) ∧ RowK w' own' 47 2 rvb xsb ∧ RowK w' own' 47 4 gvb gsb ∧ RowK w' own' 54 29 rv xs ∧ RowK w' own' 54 31 gv gs ∧
    bytesGrowing w' own' c 0 t 0 (lenG t 0 xsb.length) xsb gsb ∧ writesGrowing w' own' c (0 + xsb.length) t 0 (lenG t 0 xs.length) xs gs ∧
    OStep (fun r => r.1 = 2 ∨ r.1 = 11 ∨ r = (1, 4) ∨ r = (1, 31) ∨ r = (0, 0)) w0 own0 w' own'
theorem bytesGrowing.turn {w : World} {own : BOwn} {c id0 : Int} {t : Nat} {xs gs : List (Value × Nat)} (h : bytesGrowing w own c id0 t xs.length xs.length xs gs) : bytesGrowing w own c id0 (t + 1) 0 (lenG (t + 1) 0 xs.length) xs gs :=
  ⟨by unfold lenG; rw [if_neg (by omega)]; exact h.len, fun k x y hx hy => by
    have := h.each k x y hx hy
    rw [if_pos (List.getElem?_eq_some_iff.1 hx).1] at this
    rw [if_neg (by omega)]; omega, h.lx, h.lg⟩
theorem writesGrowing.turn {w : World} {own : BOwn} {c id0 : Int} {t : Nat} {xs gs : List (Value × Nat)} (h : writesGrowing w own c id0 t xs.length xs.length xs gs) : writesGrowing w own c id0 (t + 1) 0 (lenG (t + 1) 0 xs.length) xs gs :=
  ⟨by unfold lenG; rw [if_neg (by omega)]; exact h.len, fun k x y hx hy => by
    have := h.each k x y hx hy
    rw [if_pos (List.getElem?_eq_some_iff.1 hx).1] at this
    rw [if_neg (by omega)]; omega, h.lx, h.lg⟩
theorem setF_comm (F : Nat → Value) {i j : Nat} (h : i ≠ j) (u v : Value) : setF (setF F i u) j v = setF (setF F j v) i u := by
  funext k; unfold setF
  by_cases h1 : k = i
  · by_cases h2 : k = j
    · omega
    · rw [if_neg h2, if_pos h1, if_pos h1]
  · by_cases h2 : k = j
    · rw [if_pos h2, if_neg h1, if_pos h2]
    · rw [if_neg h2, if_neg h1, if_neg h1, if_neg h2]
set_option maxRecDepth 100000 in
set_option maxHeartbeats 8000000 in
theorem grow_any (w : World) (own : BOwn) (b : Nat) (F : Nat → Value) (hb : BookF 39 w own b F) (hn : Nils F) (hbase : F 0 = .int .i64 0) (c : Int) (hc : F 1 = .int .i64 c) (hcc : 0 ≤ c ∧ c ≤ 1)
    (rvb : Value) (xsb : List (Value × Nat)) (h2 : F 2 = rvb) (hxb : RowK w own 47 2 rvb xsb) (hlb : xsb.length ≤ 900000) (hXb : Lists w own 2 5 1 xsb (fun i n cs => cs = bytesmarks c (0 + i + 1) n)) (hsb : ∀ x ∈ xsb, x.2 ≤ 134217728)
    (rv : Value) (xs : List (Value × Nat)) (h17 : F 29 = rv) (hx : RowK w own 54 29 rv xs) (hl : xs.length ≤ 1000) (hX : Lists w own 11 78 2 xs (fun i n cs => writesRow c ((0 + xsb.length) + i + 1) n cs)) (hsx : ∀ x ∈ xs, x.2 ≤ 134217728) :
    Calls Tryz.prog 32 #[.pointer (some ⟨b, 0, none⟩)] w fun e w' => e = .returned (.tuple #[]) ∧ Grew2 w own b F c 70 rvb xsb rv xs w' := by
  have HN := Lib.hid hn
  have HC := Lib.hid hc
  have H2 := Lib.hid h2
  have H17 := Lib.hid h17
  have HSb := Lib.hid hsb
  have HSx := Lib.hid hsx
  have HBs := Lib.hid hbase
  have HS0 : Hid (Grew2 w own b F c 0 rvb xsb rv xs w) := Lib.hid (by
    have hs : setF (setF F 4 (.slice none 0 0)) 31 (.slice none 0 0) = F := by
      funext j; unfold setF
      by_cases e : j = 31
      · rw [if_pos e, e, hn 31 (by omega) (by omega) (by omega) (by omega) (by omega) (by omega)]
      · rw [if_neg e]
        by_cases e4 : j = 4
        · rw [if_pos e4, e4, hn 4 (by omega) (by omega) (by omega) (by omega) (by omega) (by omega)]
        · rw [if_neg e4]
    exact ⟨own, .slice none 0 0, [], .slice none 0 0, [], by rw [hs]; exact hb, hxb, row_nil _ _ _ _, hx, row_nil _ _ _ _, ⟨rfl, fun k x y hx hy => by simp at hy, hXb, Lists.nil _ _ _ _ _ _⟩, ⟨rfl, fun k x y hx hy => by simp at hy, hX, Lists.nil _ _ _ _ _ _⟩, OStep.refl _ hb.lt⟩)
  obtain ⟨id1, hid1⟩ : ∃ id1 : Int, id1 = 0 + xsb.length := ⟨_, rfl⟩
  obtain ⟨id2, hid2⟩ : ∃ id2 : Int, id2 = id1 + xs.length := ⟨_, rfl⟩
  have HId := Lib.hid hid1
  have HId2 := Lib.hid hid2
  clear hb hn hbase hc h2 h17 hxb hx hXb hX hsb hsx hid1 hid2
  go_enter Tryz.func32, Tryz.ntmps32
  go_wp2_with fail
  go_loopg [2, 3] 70 (fun gm tv _ wr => ∃ (t : Nat), t ≤ 70 ∧ gm = 70 - t ∧ tv = .int .i64 t ∧ Grew2 w own b F c t rvb xsb rv xs wr)
  case atStart => exact ⟨0, by omega, rfl, rfl, HS0.out⟩
  case round =>
    obtain ⟨t, ht, hgm, rfl, hS⟩ := hrel
    have Hg := Lib.hid hgm
    have HS := Lib.hid hS
    obtain ⟨own1, gvb, gsb, gv, gs, hb1, hxb1, hgb1, hx1, hg1, hGb1, hGp1, hst1⟩ := hS
    have HB1 := Lib.hid hb1
    have k0 : wr.cell? ⟨b, 0, none⟩ = some (.int .i64 0) := by rw [hb1.cell 0 (by omega), setF_other (by decide), setF_other (by decide), HBs.out]
    have HZ : Hid (∀ i, 2 ≤ i → i < 41 → i ≠ 2 → i ≠ 3 → i ≠ 29 → i ≠ 30 → i ≠ 4 → i ≠ 31 → wr.cell? ⟨b, i, none⟩ = some (.slice none 0 0)) := Lib.hid (fun i a1 a2 a3 a4 a5 a6 a7 a8 => by rw [HB1.out.cell i a2, setF_other a8, setF_other a7, HN.out i a1 a2 a3 a4 a5 a6])
    have HSt1 := Lib.hid hst1
    have HSb1 : Hid (bytesGrewS wr own1 b (setF F 31 gv) c 0 t 0 (lenG t 0 xsb.length) rvb xsb wr) := Lib.hid ⟨own1, gvb, gsb, by rw [setF_comm F (by decide)] at hb1; exact hb1, hxb1, hgb1, hGb1, OStep.refl _ hb1.lt⟩
    have HX1 := Lib.hid hx1
    have HG1 := Lib.hid hg1
    have HGp1 := Lib.hid hGp1
    clear hgm hb1 hxb1 hgb1 hx1 hg1 hGb1 hGp1 hst1
    by_cases hlt : t < 70
    · have hti : (t : Int) < 70 := by omega
      go_wp2_with fail
      refine (bytesgrow_from wr own1 b (setF F 31 gv) c (by rw [setF_other (by decide)]; exact HC.out) hcc rvb xsb (by rw [setF_other (by decide)]; exact H2.out) t hlt 0 (by omega) (by omega) HSb.out wr HSb1.out).mono ?_
      rintro e wu ⟨rfl, own2, gvb2, gsb2, hb2, hxb2, hgb2, hGb2, hst2⟩
      rw [← HId.out]
      have HB2 : Hid (BookF 39 wu own2 b (setF (setF F 4 gvb2) 31 gv)) := Lib.hid (by rw [setF_comm F (by decide)]; exact hb2)
      have HSt2 := Lib.hid hst2
      have HXb2 := Lib.hid hxb2
      have HGb2 := Lib.hid hgb2
      have HGwb2 := Lib.hid hGb2
      have HX2 := Lib.hid (HX1.out.step hst2 (by decide))
      have HG2 := Lib.hid (HG1.out.step hst2 (by decide))
      have HGp2 := Lib.hid (HGp1.out.step hst2 (fun i e => by simp at e))
      have HZ2 : Hid (∀ i, 2 ≤ i → i < 41 → i ≠ 2 → i ≠ 3 → i ≠ 29 → i ≠ 30 → i ≠ 4 → i ≠ 31 → wu.cell? ⟨b, i, none⟩ = some (.slice none 0 0)) := Lib.hid (fun i a1 a2 a3 a4 a5 a6 a7 a8 => by rw [HB2.out.cell i a2, setF_other a8, setF_other a7, HN.out i a1 a2 a3 a4 a5 a6])
      have HSp2 : Hid (writesGrewS wu own2 b (setF F 4 gvb2) c (0 + xsb.length) t 0 (lenG t 0 xs.length) rv xs wu) := Lib.hid ⟨own2, gv, gs, HB2.out, HX2.out, HG2.out, HGp2.out, OStep.refl _ HB2.out.lt⟩
      clear hb2 hxb2 hgb2 hGb2 hst2
      go_wp2_with fail
      refine (zintsGrow _ b _ _ (HZ2.out 5 (by omega) (by omega) (by omega) (by omega) (by omega) (by omega) (by omega) (by omega))).mono ?_
      rintro e _ ⟨rfl, rfl⟩
      go_wp2_with fail
      refine (ztextsGrow _ b _ _ (HZ2.out 8 (by omega) (by omega) (by omega) (by omega) (by omega) (by omega) (by omega) (by omega))).mono ?_
      rintro e _ ⟨rfl, rfl⟩
      go_wp2_with fail
      refine (zbyteListsGrow _ b _ _ (HZ2.out 11 (by omega) (by omega) (by omega) (by omega) (by omega) (by omega) (by omega) (by omega))).mono ?_
      rintro e _ ⟨rfl, rfl⟩
      go_wp2_with fail
      refine (zintListsGrow _ b _ _ (HZ2.out 14 (by omega) (by omega) (by omega) (by omega) (by omega) (by omega) (by omega) (by omega))).mono ?_
      rintro e _ ⟨rfl, rfl⟩
      go_wp2_with fail
      refine (zpairsGrow _ b _ _ (HZ2.out 17 (by omega) (by omega) (by omega) (by omega) (by omega) (by omega) (by omega) (by omega))).mono ?_
      rintro e _ ⟨rfl, rfl⟩
      go_wp2_with fail
      refine (zitemsGrow _ b _ _ (HZ2.out 20 (by omega) (by omega) (by omega) (by omega) (by omega) (by omega) (by omega) (by omega))).mono ?_
      rintro e _ ⟨rfl, rfl⟩
      go_wp2_with fail
      refine (zkidsGrow _ b _ _ (HZ2.out 23 (by omega) (by omega) (by omega) (by omega) (by omega) (by omega) (by omega) (by omega))).mono ?_
      rintro e _ ⟨rfl, rfl⟩
      go_wp2_with fail
      refine (znodesGrow _ b _ _ (HZ2.out 26 (by omega) (by omega) (by omega) (by omega) (by omega) (by omega) (by omega) (by omega))).mono ?_
      rintro e _ ⟨rfl, rfl⟩
      go_wp2_with fail
      refine (writesgrow_from wu own2 b (setF F 4 gvb2) c (by rw [setF_other (by decide)]; exact HC.out) hcc rv xs (by rw [setF_other (by decide)]; exact H17.out) t hlt id1 (by rw [HId.out]; omega) (by rw [HId.out]; omega) HSx.out wu (by rw [HId.out]; exact HSp2.out)).mono ?_
      rintro e wv3 ⟨rfl, own3, gv3, gs3, hb3, hx3, hg3, hGp3, hst3⟩
      rw [← HId2.out]
      have HB3 := Lib.hid hb3
      have HZ3 : Hid (∀ i, 2 ≤ i → i < 41 → i ≠ 2 → i ≠ 3 → i ≠ 29 → i ≠ 30 → i ≠ 4 → i ≠ 31 → wv3.cell? ⟨b, i, none⟩ = some (.slice none 0 0)) := Lib.hid (fun i a1 a2 a3 a4 a5 a6 a7 a8 => by rw [HB3.out.cell i a2, setF_other a8, setF_other a7, HN.out i a1 a2 a3 a4 a5 a6])
      have HS3 : Hid (Grew2 w own b F c (t + 1) rvb xsb rv xs wv3) := Lib.hid ⟨own3, gvb2, gsb2, gv3, gs3, hb3, HXb2.out.step hst3 (by decide), HGb2.out.step hst3 (by decide), hx3, hg3, (HGwb2.out.step hst3 (fun i e => by simp at e)).turn, (by rw [HId.out] at hGp3; exact hGp3.turn),
        (HSt1.out.trans (HSt2.out.mono (fun r e => by rcases e with e | e | e; exact .inl e; exact .inr (.inr (.inl e)); exact .inr (.inr (.inr (.inr e)))))).trans (hst3.mono (fun r e => by rcases e with e | e | e; exact .inr (.inl e); exact .inr (.inr (.inr (.inl e))); exact .inr (.inr (.inr (.inr e)))))⟩
      clear hb3 hx3 hg3 hGp3 hst3
      go_wp2_with fail
      refine (zchangesGrow _ b _ _ (HZ3.out 32 (by omega) (by omega) (by omega) (by omega) (by omega) (by omega) (by omega) (by omega))).mono ?_
      rintro e _ ⟨rfl, rfl⟩
      go_wp2_with fail
      refine (zfatesGrow _ b _ _ (HZ3.out 35 (by omega) (by omega) (by omega) (by omega) (by omega) (by omega) (by omega) (by omega))).mono ?_
      rintro e _ ⟨rfl, rfl⟩
      go_wp2_with fail
      refine (zopsGrow _ b _ _ (HZ3.out 38 (by omega) (by omega) (by omega) (by omega) (by omega) (by omega) (by omega) (by omega))).mono ?_
      rintro e _ ⟨rfl, rfl⟩
      go_wp2_with fail
      go_roundg (70 - (t + 1))
      case measure => have := Hg.out; omega
      case rel => exact ⟨t + 1, by omega, rfl, by go_num, HS3.out⟩
    · have hti : ¬ (t : Int) < 70 := by omega
      have ht70 : t = 70 := by omega
      subst ht70
      go_wp2_with fail
      go_end0
      exact ⟨rfl, HS.out⟩

/-- What a book that is finished wants. -/
structure Book2 (w : World) (own : BOwn) (b : Nat) (F : Nat → Value) (rvb wvb : Value) (xsb wsb : List (Value × Nat)) (ccb : List (List UInt8)) (rv wv : Value) (xs ws : List (Value × Nat)) (cc : List (List (Nat × List UInt8))) : Prop where
  book : BookF 39 w own b F
  nils : Nils F
  f0 : F 0 = .int .i64 0
  f1 : F 1 = .int .i64 0
  f2 : F 2 = rvb
  f3 : F 3 = wvb
  f17 : F 29 = rv
  f18 : F 30 = wv
  keptb : bytesKept w own rvb wvb xsb wsb ccb
  kept : WKept w own rv wv xs ws cc
  lenb : ccb.length ≤ 900000
  len : cc.length ≤ 1000
  szb : ∀ bs ∈ ccb, bs.length ≤ 134217000
  sz : ∀ ps ∈ cc, ps.length ≤ 900000
theorem Nils.pass {F : Nat → Value} (h : Nils F) (v : Value) : Nils (setF F 1 v) := fun i h1 h2 h3 h4 h5 h6 => by rw [setF_other (by omega)]; exact h i h1 h2 h3 h4 h5 h6
set_option maxRecDepth 100000 in
set_option maxHeartbeats 8000000 in
theorem finish_any (w : World) (own : BOwn) (b : Nat) (F : Nat → Value) (rvb wvb : Value) (xsb wsb : List (Value × Nat)) (ccb : List (List UInt8)) (rv wv : Value) (xs ws : List (Value × Nat)) (cc : List (List (Nat × List UInt8))) (h : Book2 w own b F rvb wvb xsb wsb ccb rv wv xs ws cc) :
    Calls Tryz.prog 15 #[.pointer (some ⟨b, 0, none⟩)] w fun e w' => e = .returned (.bool true) ∧ Chg (fun g => ∃ r, own g = some r) w w' := by
  have H := Lib.hid h
  have hlxb : xsb.length ≤ 900000 := by rw [h.keptb.lx]; exact h.lenb
  have hlx : xs.length ≤ 1000 := by rw [h.kept.lx]; exact h.len
  have HL0b : Hid (Lists w own 2 5 1 xsb (fun _ _ _ => True)) := Lib.hid (fun i x hx => by
    obtain ⟨bs, hbs⟩ : ∃ bs, ccb[i]? = some bs := ⟨_, List.getElem?_eq_getElem (by rw [← H.out.keptb.lx]; exact (List.getElem?_eq_some_iff.1 hx).1)⟩
    obtain ⟨h1, h2, h3⟩ := H.out.keptb.lists i x bs hx hbs
    rw [h1]
    exact ⟨_, h2, trivial, h3⟩)
  have HL0 : Hid (Lists w own 11 78 2 xs (fun _ _ _ => True)) := Lib.hid (fun i x hx => by
    obtain ⟨ps, hps⟩ : ∃ ps, cc[i]? = some ps := ⟨_, List.getElem?_eq_getElem (by rw [← H.out.kept.lx]; exact (List.getElem?_eq_some_iff.1 hx).1)⟩
    obtain ⟨h1, ⟨vs, _, h2, _⟩, h3⟩ := H.out.kept.lists i x ps hx hps
    rw [h1]
    exact ⟨_, h2, trivial, h3⟩)
  have HSb : Hid (∀ x ∈ xsb, x.2 ≤ 134217000) := Lib.hid (fun x hx => by
    obtain ⟨i, hi, e⟩ := List.getElem_of_mem hx
    have hx' : xsb[i]? = some x := by rw [List.getElem?_eq_getElem hi, e]
    obtain ⟨bs, hbs⟩ : ∃ bs, ccb[i]? = some bs := ⟨_, List.getElem?_eq_getElem (by rw [← H.out.keptb.lx]; exact hi)⟩
    rw [(H.out.keptb.lists i x bs hx' hbs).1]
    exact H.out.szb bs (List.mem_of_getElem? hbs))
  have HSx : Hid (∀ x ∈ xs, x.2 ≤ 134217000) := Lib.hid (fun x hx => by
    obtain ⟨i, hi, e⟩ := List.getElem_of_mem hx
    have hx' : xs[i]? = some x := by rw [List.getElem?_eq_getElem hi, e]
    obtain ⟨ps, hps⟩ : ∃ ps, cc[i]? = some ps := ⟨_, List.getElem?_eq_getElem (by rw [← H.out.kept.lx]; exact hi)⟩
    rw [(H.out.kept.lists i x ps hx' hps).1]
    exact Nat.le_trans (H.out.sz ps (List.mem_of_getElem? hps)) (by decide))
  have HSb1 : Hid (∀ x ∈ xsb, x.2 ≤ 134217728) := Lib.hid (fun x hx => by have := HSb.out x hx; omega)
  have HSx1 : Hid (∀ x ∈ xs, x.2 ≤ 134217728) := Lib.hid (fun x hx => by have := HSx.out x hx; omega)
  clear h
  go_enter Tryz.func15, Tryz.ntmps15
  go_wp2_with fail
  refine (untouched_any _ own b F H.out.book H.out.nils rvb wvb xsb wsb ccb H.out.f2 H.out.f3 H.out.keptb H.out.lenb (fun bs h => by have := H.out.szb bs h; omega) rv wv xs ws cc H.out.f17 H.out.f18 H.out.kept H.out.len (fun bs h => by have := H.out.sz bs h; omega)).mono ?_
  rintro e w1 ⟨rfl, hc1⟩
  have HC1 := Lib.hid hc1
  have HS1 : Hid (OStep (fun _ => False) w own w1 own) := Lib.hid (OStep.of0 H.out.book.lt hc1)
  have HB1 := Lib.hid (H.out.book.step HS1.out (fun f => f))
  have HXb1 := Lib.hid (H.out.keptb.rx.step HS1.out (fun f => f))
  have HX1 := Lib.hid (H.out.kept.rx.step HS1.out (fun f => f))
  have HLb1 := Lib.hid (HL0b.out.step HS1.out (fun _ f => f))
  have HL1 := Lib.hid (HL0.out.step HS1.out (fun _ f => f))
  clear hc1
  go_wp2_with fail
  refine (bwrite_any _ own b F HB1.out H.out.nils H.out.f0 0 H.out.f1 (by omega) rvb xsb H.out.f2 HXb1.out hlxb HLb1.out HSb1.out rv xs H.out.f17 HX1.out hlx HL1.out HSx1.out).mono ?_
  rintro e w2 ⟨rfl, hst2, hLb2, hL2⟩
  have HS2 := Lib.hid hst2
  have HLb2 := Lib.hid hLb2
  have HL2 := Lib.hid hL2
  have HB2 := Lib.hid (HB1.out.step hst2 (by decide))
  have HXb2 := Lib.hid (HXb1.out.step hst2 (by decide))
  have HX2 := Lib.hid (HX1.out.step hst2 (by decide))
  clear hst2 hLb2 hL2
  go_wp2_with fail
  refine (holds_any _ own b F F HB2.out H.out.nils (fun _ _ _ => rfl) H.out.f0 0 H.out.f1 (by omega) rvb (.slice none 0 0) xsb [] H.out.f2 (H.out.nils 4 (by omega) (by omega) (by omega) (by omega) (by omega) (by omega)) HXb2.out (row_nil _ _ _ _) (.inl rfl) hlxb HLb2.out (Lists.nil _ _ _ _ _ _) HSb1.out (fun x hx => by cases hx)
    rv (.slice none 0 0) xs [] H.out.f17 (H.out.nils 31 (by omega) (by omega) (by omega) (by omega) (by omega) (by omega)) HX2.out (row_nil _ _ _ _) (.inl rfl) hlx HL2.out (Lists.nil _ _ _ _ _ _) HSx1.out (fun x hx => by cases hx)).mono ?_
  rintro e w2h ⟨rfl, hch⟩
  have HSh : Hid (OStep (fun _ => False) w2 own w2h own) := Lib.hid (OStep.of0 HB2.out.lt hch)
  have HB2h := Lib.hid (HB2.out.step HSh.out (fun f => f))
  have kp : w2h.cell? ⟨b, 1, none⟩ = some (.int .i64 0) := by rw [HB2h.out.cell 1 (by omega), H.out.f1]
  have kf : w2h.frozen? ⟨b, 1, none⟩ = false := HB2h.out.frozen 1
  clear hch
  go_wp2_with fail
  obtain ⟨w3, hw3⟩ : ∃ w3, w3 = w2h.setCell ⟨b, 1, none⟩ (.int .i64 1) := ⟨_, rfl⟩
  rw [← hw3]
  have HS3a : Hid (OStep (fun r => r = (0, 0)) w2h own w3 own) := Lib.hid (by rw [hw3]; exact OStep.set (R := fun r => r = (0, 0)) HB2h.out.lt HB2h.out.role rfl _)
  have HS3 : Hid (OStep (fun r => r = (0, 0)) w2 own w3 own) := Lib.hid ((HSh.out.mono (fun _ f => f.elim)).trans HS3a.out)
  have HB3 : Hid (BookF 39 w3 own b (setF F 1 (.int .i64 1))) := Lib.hid (by rw [hw3]; exact HB2h.out.set 1 _ (by omega))
  have HN3 : Hid (Nils (setF F 1 (.int .i64 1))) := Lib.hid (H.out.nils.pass _)
  have G0 : Hid (setF F 1 (.int .i64 1) 0 = .int .i64 0) := Lib.hid (by rw [setF_other (by decide)]; exact H.out.f0)
  have G2 : Hid (setF F 1 (.int .i64 1) 2 = rvb) := Lib.hid (by rw [setF_other (by decide)]; exact H.out.f2)
  have G17 : Hid (setF F 1 (.int .i64 1) 29 = rv) := Lib.hid (by rw [setF_other (by decide)]; exact H.out.f17)
  have G4 : Hid (setF F 1 (.int .i64 1) 4 = .slice none 0 0) := Lib.hid (HN3.out 4 (by omega) (by omega) (by omega) (by omega) (by omega) (by omega))
  have G19 : Hid (setF F 1 (.int .i64 1) 31 = .slice none 0 0) := Lib.hid (HN3.out 31 (by omega) (by omega) (by omega) (by omega) (by omega) (by omega))
  have HXb3 := Lib.hid (HXb2.out.step HS3.out (by decide))
  have HX3 := Lib.hid (HX2.out.step HS3.out (by decide))
  have HLb3 : Hid (Lists w3 own 2 5 1 xsb (fun _ _ _ => True)) := Lib.hid ((HLb2.out.step HS3.out (fun i e => by simp at e)).mono (fun i x cs _ _ => trivial))
  have HL3 : Hid (Lists w3 own 11 78 2 xs (fun _ _ _ => True)) := Lib.hid ((HL2.out.step HS3.out (fun i e => by simp at e)).mono (fun i x cs _ _ => trivial))
  clear hw3 kp kf
  refine (bwrite_any _ own b _ HB3.out HN3.out G0.out 1 (setF_same _ _ _) (by omega) rvb xsb G2.out HXb3.out hlxb HLb3.out HSb1.out rv xs G17.out HX3.out hlx HL3.out HSx1.out).mono ?_
  rintro e w4 ⟨rfl, hst4, hLb4, hL4⟩
  have HS4 := Lib.hid hst4
  have HLb4 := Lib.hid hLb4
  have HL4 := Lib.hid hL4
  have HB4 := Lib.hid (HB3.out.step hst4 (by decide))
  have HXb4 := Lib.hid (HXb3.out.step hst4 (by decide))
  have HX4 := Lib.hid (HX3.out.step hst4 (by decide))
  clear hst4 hLb4 hL4
  go_wp2_with fail
  refine (holds_any _ own b (setF F 1 (.int .i64 1)) _ HB4.out HN3.out (fun _ _ _ => rfl) G0.out 1 (setF_same _ _ _) (by omega) rvb (.slice none 0 0) xsb [] G2.out G4.out HXb4.out (row_nil _ _ _ _) (.inl rfl) hlxb HLb4.out (Lists.nil _ _ _ _ _ _) HSb1.out (fun x hx => by cases hx)
    rv (.slice none 0 0) xs [] G17.out G19.out HX4.out (row_nil _ _ _ _) (.inl rfl) hlx HL4.out (Lists.nil _ _ _ _ _ _) HSx1.out (fun x hx => by cases hx)).mono ?_
  rintro e w4h ⟨rfl, hch⟩
  have HSh4 : Hid (OStep (fun _ => False) w4 own w4h own) := Lib.hid (OStep.of0 HB4.out.lt hch)
  have HB4h := Lib.hid (HB4.out.step HSh4.out (fun f => f))
  have HXb4h := Lib.hid (HXb4.out.step HSh4.out (fun f => f))
  have HX4h := Lib.hid (HX4.out.step HSh4.out (fun f => f))
  have HLb4h := Lib.hid (HLb4.out.step HSh4.out (fun _ f => f))
  have HL4h : Hid (Lists w4h own 11 78 2 xs (fun i n cs => writesRow 1 ((0 + xsb.length) + i + 1) n cs)) := Lib.hid ((HL4.out.step HSh4.out (fun _ f => f)))
  clear hch
  go_wp2_with fail
  refine (grow_any _ own b _ HB4h.out HN3.out G0.out 1 (setF_same _ _ _) (by omega) rvb xsb G2.out HXb4h.out hlxb HLb4h.out HSb1.out rv xs G17.out HX4h.out hlx HL4h.out HSx1.out).mono ?_
  rintro e w5 ⟨rfl, own5, gvb5, gsb5, gv5, gs5, hb5, hxb5, hgb5, hx5, hg5, hGb5, hGp5, hst5⟩
  have HB5 := Lib.hid hb5
  have HXb5 := Lib.hid hxb5
  have HGb5 := Lib.hid hgb5
  have HX5 := Lib.hid hx5
  have HG5 := Lib.hid hg5
  have HGwb5 := Lib.hid hGb5
  have HGwp5 := Lib.hid hGp5
  have HS5 := Lib.hid hst5
  have HLenb : Hid (gsb5.length = xsb.length) := Lib.hid hGb5.len
  have HLenp : Hid (gs5.length = xs.length) := Lib.hid hGp5.len
  have HSgb : Hid (∀ x ∈ gsb5, x.2 ≤ 134217728) := Lib.hid (fun y hy => by
    obtain ⟨i, hi, e⟩ := List.getElem_of_mem hy
    have hy' : gsb5[i]? = some y := by rw [List.getElem?_eq_getElem hi, e]
    obtain ⟨x, hx⟩ : ∃ x, xsb[i]? = some x := ⟨_, List.getElem?_eq_getElem (by have := HLenb.out; omega)⟩
    have h1 := HGwb5.out.each i x y hx hy'
    rw [if_neg (by omega)] at h1
    have := HSb.out x (List.mem_of_getElem? hx)
    omega)
  have HSgp : Hid (∀ x ∈ gs5, x.2 ≤ 134217728) := Lib.hid (fun y hy => by
    obtain ⟨i, hi, e⟩ := List.getElem_of_mem hy
    have hy' : gs5[i]? = some y := by rw [List.getElem?_eq_getElem hi, e]
    obtain ⟨x, hx⟩ : ∃ x, xs[i]? = some x := ⟨_, List.getElem?_eq_getElem (by have := HLenp.out; omega)⟩
    have h1 := HGwp5.out.each i x y hx hy'
    rw [if_neg (by omega)] at h1
    have := HSx.out x (List.mem_of_getElem? hx)
    omega)
  clear hb5 hxb5 hgb5 hx5 hg5 hGb5 hGp5 hst5
  go_wp2_with fail
  refine (holds_any _ own5 b (setF F 1 (.int .i64 1)) _ HB5.out HN3.out (fun i h4 h19 => by rw [setF_other h19, setF_other h4]) G0.out 1 (setF_same _ _ _) (by omega) rvb gvb5 xsb gsb5 G2.out (by rw [setF_other (by decide), setF_same]) HXb5.out HGb5.out (.inr HLenb.out) hlxb HGwb5.out.lx HGwb5.out.lg HSb1.out HSgb.out
    rv gv5 xs gs5 G17.out (setF_same _ _ _) HX5.out HG5.out (.inr HLenp.out) hlx HGwp5.out.lx HGwp5.out.lg HSx1.out HSgp.out).mono ?_
  rintro e w6 ⟨rfl, hc6⟩
  have HC6 := Lib.hid hc6
  clear hc6
  go_wp2_with fail
  go_ret
  have all : ∀ {R : Nat × Nat → Prop} {wa wb : World} {ob : BOwn}, OStep R wa own wb ob → Chg (fun g => ∃ r, own g = some r) wa wb := fun h => h.chg.mono (fun g ⟨r, e, _⟩ => ⟨r, e⟩)
  exact ⟨rfl, (((((((HC1.out.mono (fun _ f => f.elim)).trans (all HS2.out) (fun _ => .inl)).trans (all HS3.out) (fun _ => .inl)).trans (all HS4.out) (fun _ => .inl)).trans (all HSh4.out) (fun _ => .inl)).trans (all HS5.out) (fun _ => .inl)).trans HC6.out (fun _ f => f.elim))⟩

end Go.Proofs.YtckioocahmbhkaaGreatDoor
