/- Walks: the book's lists of bytes are kept; are they as they were? -/
import Derived.Test.YtckioocahmbhkaaGreatDoorBKb5
import Derived.Test.YtckioocahmbhkaaGreatDoorWR
namespace Go.Proofs.YtckioocahmbhkaaGreatDoor
open Go Go.RowKit Go.Maps

/-- Lists that are kept, and their copies. -/
structure bytesKept (w : World) (own : BOwn) (rv wv : Value) (xs ws : List (Value × Nat)) (cc : List (List UInt8)) : Prop where
  rx : RowK w own 47 2 rv xs
  rw' : RowK w own 47 3 wv ws
  lx : xs.length = cc.length
  lw : ws.length = cc.length
  lists : ∀ (i : Nat) x bs, xs[i]? = some x → cc[i]? = some bs → x.2 = bs.length ∧ w.ownsRow 0 5 1 x.1 bs.length (bVs bs) ∧ Mine own (2, i) x.1
  was : ∀ (i : Nat) y bs, ws[i]? = some y → cc[i]? = some bs → w.ownsRow 0 5 1 y.1 bs.length (bVs bs) ∧ Mine own (2 + 20, i) y.1
theorem bytesKept.nil (w : World) (own : BOwn) : bytesKept w own (.slice none 0 0) (.slice none 0 0) [] [] [] :=
  ⟨row_nil _ _ _ _, row_nil _ _ _ _, rfl, rfl, fun i x bs h => by simp at h, fun i x bs h => by simp at h⟩
theorem bytesKept.chg {w w' : World} {own : BOwn} {rv wv : Value} {xs ws : List (Value × Nat)} {cc : List (List UInt8)} {S : Nat → Prop} (h : bytesKept w own rv wv xs ws cc) (hc : Chg S w w') (hs : ∀ g r, own g = some r → ¬ S g) : bytesKept w' own rv wv xs ws cc :=
  ⟨⟨ownsRow_chg h.rx.row hc (fun g e => hs g _ (h.rx.mine g e)), h.rx.mine⟩, ⟨ownsRow_chg h.rw'.row hc (fun g e => hs g _ (h.rw'.mine g e)), h.rw'.mine⟩, h.lx, h.lw,
   fun i x bs hx hb => by obtain ⟨h1, h2, h3⟩ := h.lists i x bs hx hb; exact ⟨h1, ownsRow_chg h2 hc (fun g e => hs g _ (h3 g e)), h3⟩,
   fun i x bs hx hb => by obtain ⟨h2, h3⟩ := h.was i x bs hx hb; exact ⟨ownsRow_chg h2 hc (fun g e => hs g _ (h3 g e)), h3⟩⟩
theorem bytesKept.chg0 {w w' : World} {own : BOwn} {rv wv : Value} {xs ws : List (Value × Nat)} {cc : List (List UInt8)} (h : bytesKept w own rv wv xs ws cc) (hc : Chg (fun _ => False) w w') : bytesKept w' own rv wv xs ws cc := h.chg hc (fun _ _ _ f => f)
theorem BookF.chg0bytes {tb : TypeId} {w w' : World} {own : BOwn} {b : Nat} {F : Nat → Value} (h : BookF tb w own b F) (hc : Chg (fun _ => False) w w') : BookF tb w' own b F := h.step (OStep.of0 (R := fun _ => False) h.lt hc) (fun f => f)
theorem sees_of_bytes {w : World} {v : Value} {bs : List UInt8} (h : w.ownsRow 0 5 1 v bs.length (bVs bs)) : SeesB w v bs := SeesB.of_row h
theorem same_of_bytes (w : World) (v1 v2 : Value) (bs : List UInt8) (hl : bs.length ≤ 134217728) (h1 : w.ownsRow 0 5 1 v1 bs.length (bVs bs)) (h2 : w.ownsRow 0 5 1 v2 bs.length (bVs bs)) :
    Calls Tryz.prog 16 #[v1, v2] w fun e w' => e = .returned (.bool true) ∧ Chg (fun _ => False) w w' := by
  refine (same_any w v1 v2 bs bs (sees_of_bytes h1) (sees_of_bytes h2)).mono ?_
  rintro e w' ⟨rfl, rfl⟩
  rw [decide_eq_true rfl]
  exact ⟨rfl, Chg.refl _ _⟩

set_option maxRecDepth 100000 in
set_option maxHeartbeats 8000000 in
theorem bytesuntouched_any (w : World) (own : BOwn) (b : Nat) (F : Nat → Value) (hb : BookF 39 w own b F) (rv wv : Value) (xs ws : List (Value × Nat)) (cc : List (List UInt8)) (hrv : F 2 = rv) (hwv : F 3 = wv) (hk : bytesKept w own rv wv xs ws cc) (hn : cc.length ≤ 1000000) (hsz : ∀ bs ∈ cc, bs.length ≤ 134217728) :
    Calls Tryz.prog 36 #[.pointer (some ⟨b, 0, none⟩)] w fun e w' => e = .returned (.bool true) ∧ Chg (fun _ => False) w w' := by
  have HB := Lib.hid hb
  have HK := Lib.hid hk
  have HRv := Lib.hid hrv
  have HWv := Lib.hid hwv
  have HSz := Lib.hid hsz
  obtain ⟨ra, rc, rfl⟩ := hk.rx.shape
  obtain ⟨wa, wc, rfl⟩ := hk.rw'.shape
  have hlx := hk.lx
  have hlw := hk.lw
  clear hb hk hrv hwv hsz
  go_enter Tryz.func36, Tryz.ntmps36
  go_wp2_with fail
  go_loopg [3, 4] xs.length (fun gm iv _ wr => ∃ (i : Nat), i ≤ xs.length ∧ gm = xs.length - i ∧ iv = .int .i64 i ∧ Chg (fun _ => False) w wr)
  case atStart => exact ⟨0, by omega, rfl, rfl, Chg.refl _ _⟩
  case round =>
    obtain ⟨i, hi, hgm, rfl, hch⟩ := hrel
    have Hg := Lib.hid hgm
    have HCh := Lib.hid hch
    have HKr := Lib.hid (HK.out.chg0 hch)
    have hbr := HB.out.chg0bytes hch
    have k1 : wr.cell? ⟨b, 2, none⟩ = some (.slice ra xs.length rc) := by rw [hbr.cell 2 (by omega), HRv.out]
    have k2 : wr.cell? ⟨b, 3, none⟩ = some (.slice wa ws.length wc) := by rw [hbr.cell 3 (by omega), HWv.out]
    clear hgm hch hbr
    by_cases hlt : i < xs.length
    · obtain ⟨x, hx⟩ : ∃ x, xs[i]? = some x := ⟨_, List.getElem?_eq_getElem hlt⟩
      obtain ⟨y, hy⟩ : ∃ y, ws[i]? = some y := ⟨_, List.getElem?_eq_getElem (by omega)⟩
      obtain ⟨bs, hbs⟩ : ∃ bs, cc[i]? = some bs := ⟨_, List.getElem?_eq_getElem (by omega)⟩
      obtain ⟨g1, c1, e1, -, x1, -⟩ := HKr.out.rx.at' hx
      cases e1
      obtain ⟨g2, c2, e2, -, x2, -⟩ := HKr.out.rw'.at' hy
      cases e2
      obtain ⟨-, hr1, -⟩ := HKr.out.lists i x bs hx hbs
      obtain ⟨hr2, -⟩ := HKr.out.was i y bs hy hbs
      have hl := HSz.out bs (List.mem_of_getElem? hbs)
      have HR1 := Lib.hid hr1
      have HR2 := Lib.hid hr2
      obtain ⟨xa, xc, ex, _⟩ := bk_slice hr1
      obtain ⟨ya, yc, ey, _⟩ := bk_slice hr2
      have hki : (i : Int) < (xs.length : Int) := by omega
      have hkj : (i : Int) < (ws.length : Int) := by omega
      have hk0 : (0 : Int) ≤ (i : Int) := by omega
      have HSame : Hid (∀ wx, Chg (fun _ => False) wr wx → Calls Tryz.prog 16 #[x.1, y.1] wx fun e w' => e = .returned (.bool true) ∧ Chg (fun _ => False) wx w') := Lib.hid (fun wx hx => same_of_bytes wx x.1 y.1 bs hl (ownsRow_chg HR1.out hx (fun _ _ f => f)) (ownsRow_chg HR2.out hx (fun _ _ f => f)))
      rw [ex] at x1 HSame
      rw [ey] at x2 HSame
      clear hx hy hbs hr1 hr2 ex ey hl
      go_wp2_with fail
      go_region_held3 (fun w' => w'.cell? ⟨b, 2, none⟩ = some (.slice (some ⟨g1, 0, none⟩) xs.length rc) ∧ w'.cell? ⟨b, 3, none⟩ = some (.slice (some ⟨g2, 0, none⟩) ws.length wc) ∧ w'.cell? ⟨g1, i, none⟩ = some (.slice xa bs.length xc) ∧ w'.cell? ⟨g2, i, none⟩ = some (.slice ya bs.length yc))
        (first
          | exact kx5
          | go_keep)
        ((go_simp; go_at_call 16; refine (HSame.out _ ((Chg.refl _ wr).drew)).mono ?_; rintro e w5 ⟨rfl, hc5⟩; have C5 : Hid (Chg (fun _ => False) wr w5) := Lib.hid (((Chg.refl _ wr).drew).trans hc5 (fun _ f => f.elim)); have kx5 := And.intro (bk_cell C5.out k1 (fun f => f)) (And.intro (bk_cell C5.out k2 (fun f => f)) (And.intro (bk_cell C5.out x1 (fun f => f)) (bk_cell C5.out x2 (fun f => f)))); clear hc5))
      all_goals
        go_wp2_with fail
        go_roundg (xs.length - (i + 1))
        case measure => have := Hg.out; omega
        case rel => exact ⟨i + 1, by omega, rfl, by go_num, HCh.out.trans C5.out (fun _ f => f.elim)⟩
    · have hki : ¬ (i : Int) < (xs.length : Int) := by omega
      go_wp2_with fail
      go_ret
      exact ⟨rfl, HCh.out⟩

/-- What keeping leaves. -/
def bytesKeptS (w : World) (own : BOwn) (b : Nat) (F : Nat → Value) (v : Value) (n : Nat) (xs ws : List (Value × Nat)) (cc : List (List UInt8)) (bs : List UInt8) (w' : World) : Prop :=
  ∃ (own' : BOwn) (rv wv u : Value), BookF 39 w' own' b (setF (setF F 2 rv) 3 wv) ∧ bytesKept w' own' rv wv (xs ++ [(v, n)]) (ws ++ [(u, n)]) (cc ++ [bs]) ∧ KStep (fun r => r = (1, 2) ∨ r = (1, 3) ∨ r = (0, 0)) v w own w' own'

set_option maxRecDepth 100000 in
set_option maxHeartbeats 8000000 in
theorem byteskeep_any (w : World) (own : BOwn) (b : Nat) (F : Nat → Value) (hb : BookF 39 w own b F) (rv wv : Value) (xs ws : List (Value × Nat)) (cc : List (List UInt8)) (hrv : F 2 = rv) (hwv : F 3 = wv) (hk : bytesKept w own rv wv xs ws cc) (hn : cc.length ≤ 1000000)
    (a : Option Addr) (cap : Nat) (bs : List UInt8) (hl : bs.length ≤ 16777216) (hr : w.ownsRow 0 5 1 (.slice a bs.length cap) bs.length (bVs bs)) (hu : ∀ g, (Value.slice a bs.length cap).ownBlock = some g → own g = none) :
    Calls Tryz.prog 10 #[.pointer (some ⟨b, 0, none⟩), .slice a bs.length cap] w fun e w' => e = .returned (.tuple #[]) ∧ bytesKeptS w own b F (.slice a bs.length cap) bs.length xs ws cc bs w' := by
  obtain ⟨i2, hi2, hy0, hy1, hy2⟩ := info_parts bytesinfol
  obtain ⟨own1, ho1⟩ : ∃ own1, own1 = giveV own (.slice a bs.length cap) (2, cc.length) := ⟨_, rfl⟩
  have hkeep1 : ∀ g q, own g = some q → own1 g = some q := by rw [ho1]; exact giveV_keep hu
  have hlt1 : ∀ g q, own1 g = some q → g < w.heap.size := fun g q e => by
    rw [ho1] at e
    rcases giveV_new e with e | e
    · exact hb.lt g q e
    · rcases own_form hr with ⟨e2, _⟩ | ⟨g2, c2, cs2, e2, _, hh⟩
      · rw [e2] at e; simp [Value.ownBlock] at e
      · rw [e2] at e; simp only [Value.ownBlock, Option.some.injEq] at e; rw [← e]; exact heap_lt hh
  have HM1 : Hid (Mine own1 (2, cc.length) (.slice a bs.length cap)) := Lib.hid (by rw [ho1]; exact giveV_mine _ _ _)
  have HB1 := Lib.hid (hb.more hkeep1 hlt1)
  have HNew1 : Hid (∀ g q, own1 g = some q → own g = some q ∨ (Value.slice a bs.length cap).ownBlock = some g) := Lib.hid (fun g q e => by rw [ho1] at e; exact giveV_new e)
  have HKp1 := Lib.hid hkeep1
  have HR := Lib.hid hr
  have HK := Lib.hid hk
  have HRv := Lib.hid hrv
  have HWv := Lib.hid hwv
  obtain ⟨ra, rc, rfl⟩ := hk.rx.shape
  obtain ⟨wa, wc, rfl⟩ := hk.rw'.shape
  have HX := Lib.hid (hk.rx.more hkeep1)
  have HW := Lib.hid (hk.rw'.more hkeep1)
  have hlx' := hk.lx
  have hlw' := hk.lw
  have hxl : xs.length ≤ 1000000 := by omega
  have hwl : ws.length ≤ 1000000 := by omega
  have HLx := Lib.hid hlx'
  have HLw := Lib.hid hlw'
  clear hlx' hlw'
  have k1 : w.cell? ⟨b, 2, none⟩ = some (.slice ra xs.length rc) := by rw [hb.cell 2 (by omega), hrv]
  have k1a : ∀ o, (w.alloc o).cell? ⟨b, 2, none⟩ = some (.slice ra xs.length rc) := fun o => bk_cell ((Chg.refl (fun _ => False) w).alloc o) k1 (fun f => f)
  have HRow : Hid (∀ o, (w.alloc o).ownsRow 0 47 1 (.slice ra xs.length rc) xs.length (xs.map (·.1))) := Lib.hid (fun o => ownsRow_chg HX.out.row ((Chg.refl (fun _ => False) w).alloc o) (fun _ _ f => f))
  have HLt : Hid (∀ (o : Obj) g r, own1 g = some r → g < (w.alloc o).heap.size) := Lib.hid (fun o g r e => by have := hlt1 g r e; have e2 : (w.alloc o).heap.size = w.heap.size + 1 := Array.size_push _; omega)
  clear hb hk hrv hwv hr hu ho1 hkeep1 hlt1
  go_enter Tryz.func10, Tryz.ntmps10
  go_wp2_with
    (at_builtin
     refine list_grow (P := Tryz.prog) (w := w.alloc (.cells #[.slice a bs.length cap] 47)) (by rfl) _ _ 25 (by rfl) 47 i2 (.slice none 0 0) 1 24 Tryz.underlying25 hi2 hy0 hy1 hy2 rfl (by omega) own1 (fun g r e => HLt.out _ g r e) (1, 2) (fun r => r = (1, 2)) rfl (.slice ra xs.length rc) xs.length _ (by rfl) (HRow.out _) HX.out.mine 1 1 ⟨w.heap.size, 0, none⟩ [.slice a bs.length cap] (by rfl) rfl (World.news_of_block (cs := #[.slice a bs.length cap]) (t := 47) (fr := (0, 0)) (bk_new w _)) (by simp [Value.oneCell']) (by omega) (by unfold maxLen; omega) (by omega) ?_
     intro g7 c7 w7 own7 hr7 hg7 hst7
     have HSt7 : Hid (OStep (fun r => r = (1, 2)) w own1 w7 own7) := Lib.hid ((OStep.of0 (R := fun r => r = (1, 2)) HB1.out.lt ((Chg.refl _ w).alloc _)).trans hst7)
     have HR7 := Lib.hid hr7
     have HG7 := Lib.hid hg7
     have HB7 := Lib.hid (HB1.out.step HSt7.out (by decide))
     have q2 : w7.cell? ⟨b, 2, none⟩ = some (.slice ra xs.length rc) := (by rw [HB7.out.cell 2 (by omega), HRv.out])
     have qf : w7.frozen? ⟨b, 2, none⟩ = false := HB7.out.frozen 2
     clear hr7 hg7 hst7)
  obtain ⟨wm, hwm⟩ : ∃ wm, wm = w7.setCell ⟨b, 2, none⟩ (.slice (some ⟨g7, 0, none⟩) (xs.length + 1) c7) := ⟨_, rfl⟩
  rw [← hwm]
  have HStm : Hid (OStep (fun r => r = (1, 2) ∨ r = (0, 0)) w own1 wm own7) := Lib.hid (by rw [hwm]; exact (HSt7.out.mono (fun r e => .inl e)).trans (OStep.set (R := fun r => r = (1, 2) ∨ r = (0, 0)) HB7.out.lt HB7.out.role (.inr rfl) _))
  have HBm : Hid (BookF 39 wm own7 b (setF F 2 (.slice (some ⟨g7, 0, none⟩) (xs.length + 1) c7))) := Lib.hid (by rw [hwm]; exact HB7.out.set 2 _ (by omega))
  have HXm : Hid (RowK wm own7 47 2 (.slice (some ⟨g7, 0, none⟩) (xs.length + 1) c7) (xs ++ [(.slice a bs.length cap, bs.length)])) := Lib.hid ⟨by
    rw [hwm, List.length_append, List.map_append]
    exact ownsRow_chg HR7.out (Chg.setCell (S := fun x => x = b) (Chg.refl _ w7) (p := ⟨b, 2, none⟩) (.inl rfl) _) (fun x e1 e2 => by
      simp only [Value.ownBlock, Option.some.injEq] at e1
      have h := HG7.out
      rw [e1, e2, HB7.out.role] at h; simp at h), fun x e1 => by simp only [Value.ownBlock, Option.some.injEq] at e1; rw [← e1]; exact HG7.out⟩
  have HWm := Lib.hid (HW.out.step HStm.out (by decide))
  have HRm := Lib.hid (row_step HR.out HM1.out (fun e => by simp at e) HStm.out)
  clear k1 k1a q2 qf hwm
  have k2 : wm.cell? ⟨b, 3, none⟩ = some (.slice wa ws.length wc) := by rw [HBm.out.cell 3 (by omega), setF_other (by decide), HWv.out]
  have HCopy : Hid (∀ wx, Chg (fun _ => False) wm wx → Calls Tryz.prog 14 #[.slice a bs.length cap] wx fun e w' => ∃ g cp, e = .returned (.slice (some ⟨g, 0, none⟩) bs.length cp) ∧ wx.heap.size ≤ g ∧ w'.ownsRow 0 5 1 (.slice (some ⟨g, 0, none⟩) bs.length cp) bs.length (bVs bs) ∧ Chg (fun _ => False) wx w') := Lib.hid (fun wx hx => by
    have hs := sees_of_bytes (ownsRow_chg HRm.out hx (fun _ _ f => f))
    exact bytes_any wx _ bs hs (by omega))
  go_wp2_with fail
  go_region_law
    (first
      | (refine step_grow (P := Tryz.prog) (w := w3.alloc (.cells #[.slice (some ⟨g3, 0, none⟩) bs.length c3] 47)) (by rfl) _ _ 25 (by rfl) 47 i2 (.slice none 0 0) 1 24 Tryz.underlying25 hi2 hy0 hy1 hy2 rfl (by omega) own3 (fun g r e => HLt3.out _ g r e) (1, 3) (fun r => r = (1, 3)) rfl (.slice wa ws.length wc) ws.length _ (by rfl) (HRow3.out _) HW3.out.mine 1 1 ⟨w3.heap.size, 0, none⟩ [.slice (some ⟨g3, 0, none⟩) bs.length c3] (by rfl) rfl (World.news_of_block (cs := #[.slice (some ⟨g3, 0, none⟩) bs.length c3]) (t := 47) (fr := (0, 0)) (bk_new w3 _)) (by simp [Value.oneCell']) (by omega) (by unfold maxLen; omega) (by omega) ?_
         intro g8 c8 w8 own8 hr8 hg8 hst8 hold8
         have HSt8 : Hid (OStep (fun r => r = (1, 3)) w3 own3 w8 own8) := Lib.hid ((OStep.of0 (R := fun r => r = (1, 3)) HB3.out.lt ((Chg.refl _ w3).alloc _)).trans hst8)
         have HR8 := Lib.hid hr8
         have HG8 := Lib.hid hg8
         have HB8 := Lib.hid (HB3.out.step HSt8.out (by decide))
         have z2 : w8.cell? ⟨b, 3, none⟩ = some (.slice wa ws.length wc) := (by rw [HB8.out.cell 3 (by omega), setF_other (by decide), HWv.out])
         have zf : w8.frozen? ⟨b, 3, none⟩ = false := HB8.out.frozen 3
         clear hr8 hg8 hst8 hold8)
      | (go_simp; go_at_call 14; refine (HCopy.out _ ((Chg.refl _ wm).drew)).mono ?_
         rintro e w3 ⟨g3, c3, rfl, hg3, ho3, hc3⟩
         obtain ⟨own3, ho3e⟩ : ∃ own3, own3 = giveV own7 (.slice (some ⟨g3, 0, none⟩) bs.length c3) (2 + 20, cc.length) := ⟨_, rfl⟩
         have HGe3 : Hid (wm.heap.size ≤ g3) := Lib.hid hg3
         have hun3 : ∀ g, (Value.slice (some ⟨g3, 0, none⟩) bs.length c3).ownBlock = some g → own7 g = none := fun g e => by
           cases e7 : own7 g with
           | none => rfl
           | some q => have := HBm.out.lt g q e7; have := HGe3.out; simp only [Value.ownBlock, Option.some.injEq] at e; omega
         have hkeep3 : ∀ g q, own7 g = some q → own3 g = some q := by rw [ho3e]; exact giveV_keep hun3
         have HKp3 := Lib.hid hkeep3
         have HC3 : Hid (Chg (fun _ => False) wm w3) := Lib.hid (((Chg.refl _ wm).drew).trans hc3 (fun _ f => f.elim))
         have hlt3 : ∀ g q, own3 g = some q → g < w3.heap.size := fun g q e => by
           rw [ho3e] at e
           rcases giveV_new e with e | e
           · exact Nat.lt_of_lt_of_le (HBm.out.lt g q e) HC3.out.size
           · rcases own_form ho3 with ⟨e2, _⟩ | ⟨g2, c2, cs2, e2, _, hh⟩
             · cases e2
             · cases e2; simp only [Value.ownBlock, Option.some.injEq] at e; rw [← e]; exact heap_lt hh
         have HNew3 : Hid (∀ g q, own3 g = some q → own7 g = some q ∨ g = g3) := Lib.hid (fun g q e => by rw [ho3e] at e; rcases giveV_new e with e | e; exact .inl e; (simp only [Value.ownBlock, Option.some.injEq] at e; exact .inr e.symm))
         have HM3 : Hid (Mine own3 (2 + 20, cc.length) (.slice (some ⟨g3, 0, none⟩) bs.length c3)) := Lib.hid (by rw [ho3e]; exact giveV_mine _ _ _)
         have HO3 := Lib.hid ho3
         have HB3 := Lib.hid ((HBm.out.chg0bytes HC3.out).more hkeep3 hlt3)
         have HW3 := Lib.hid ((HWm.out.step (OStep.of0 (R := fun _ => False) HBm.out.lt HC3.out) (fun f => f)).more hkeep3)
         have HRow3 : Hid (∀ o, (w3.alloc o).ownsRow 0 47 1 (.slice wa ws.length wc) ws.length (ws.map (·.1))) := Lib.hid (fun o => ownsRow_chg HW3.out.row ((Chg.refl (fun _ => False) w3).alloc o) (fun _ _ f => f))
         have HLt3 : Hid (∀ (o : Obj) g r, own3 g = some r → g < (w3.alloc o).heap.size) := Lib.hid (fun o g r e => by have := hlt3 g r e; have e2 : (w3.alloc o).heap.size = w3.heap.size + 1 := Array.size_push _; omega)
         have y2 : w3.cell? ⟨b, 3, none⟩ = some (.slice wa ws.length wc) := bk_cell HC3.out k2 (fun f => f)
         have y2a : ∀ o, (w3.alloc o).cell? ⟨b, 3, none⟩ = some (.slice wa ws.length wc) := fun o => bk_cell ((Chg.refl (fun _ => False) w3).alloc o) y2 (fun f => f)
         clear hg3 ho3 hc3 ho3e hun3 hkeep3 hlt3))
  all_goals
    go_wp2_with fail
    go_end0
    have hlx := HLx.out
    have hlw := HLw.out
    obtain ⟨w9, hw9⟩ : ∃ w9, w9 = w8.setCell ⟨b, 3, none⟩ (.slice (some ⟨g8, 0, none⟩) (ws.length + 1) c8) := ⟨_, rfl⟩
    have hs9 : OStep (fun r => r = (0, 0)) w8 own8 w9 own8 := by rw [hw9]; exact OStep.set (R := fun r => r = (0, 0)) HB8.out.lt HB8.out.role rfl _
    have hb9 : BookF 39 w9 own8 b (setF (setF F 2 (.slice (some ⟨g7, 0, none⟩) (xs.length + 1) c7)) 3 (.slice (some ⟨g8, 0, none⟩) (ws.length + 1) c8)) := by rw [hw9]; exact HB8.out.set 3 _ (by omega)
    have hs03 : OStep (fun _ => False) wm own7 w3 own7 := OStep.of0 HBm.out.lt HC3.out
    have car7 : ∀ (e : TypeId) (sz n : Nat) (z : Value) (zs : List Value) (r : Nat × Nat), Mine own7 r z → r ≠ (1, 3) → r ≠ (0, 0) → wm.ownsRow 0 e sz z n zs → w9.ownsRow 0 e sz z n zs ∧ Mine own8 r z := fun e sz n z zs r hm h1 h2 hr =>
      ⟨row_step (row_step (row_step hr hm (fun f => f) hs03) (hm.more HKp3.out) h1 HSt8.out) ((hm.more HKp3.out).step HSt8.out) h2 hs9, ((hm.more HKp3.out).step HSt8.out).step hs9⟩
    have car : ∀ (e : TypeId) (sz n : Nat) (z : Value) (zs : List Value) (r : Nat × Nat), Mine own1 r z → r ≠ (1, 2) → r ≠ (1, 3) → r ≠ (0, 0) → w.ownsRow 0 e sz z n zs → w9.ownsRow 0 e sz z n zs ∧ Mine own8 r z := fun e sz n z zs r hm h0 h1 h2 hr =>
      car7 e sz n z zs r (hm.step HStm.out) h1 h2 (row_step hr hm (fun e => e.elim h0 h2) HStm.out)
    have hgw : w8.ownsRow 0 47 1 (.slice (some ⟨g8, 0, none⟩) (ws.length + 1) c8) (ws.length + 1) (ws.map (·.1) ++ [.slice (some ⟨g3, 0, none⟩) bs.length c3]) := HR8.out
    refine ⟨rfl, own8, _, _, .slice (some ⟨g3, 0, none⟩) bs.length c3, by rw [← hw9]; exact hb9, ?_, ?_⟩
    · rw [← hw9]
      refine ⟨?_, ?_, by simp [hlx], by simp [hlw], fun i x cs hx hcs => ?_, fun i y cs hy hcs => ?_⟩
      · obtain ⟨h1, h2⟩ := car7 _ _ _ _ _ _ HXm.out.mine (by decide) (by decide) HXm.out.row
        exact ⟨h1, h2⟩
      · refine ⟨?_, fun g e => by simp only [Value.ownBlock, Option.some.injEq] at e; rw [← e]; exact HG8.out⟩
        rw [List.length_append, List.map_append]
        exact row_step hgw (fun g e => by simp only [Value.ownBlock, Option.some.injEq] at e; rw [← e]; exact HG8.out) (by decide) hs9
      · rcases Nat.lt_or_ge i cc.length with hi | hi
        · rw [List.getElem?_append_left (by omega)] at hx
          rw [List.getElem?_append_left hi] at hcs
          obtain ⟨h1, h2, h3⟩ := HK.out.lists i x cs hx hcs
          obtain ⟨h4, h5⟩ := car _ _ _ _ _ _ (h3.more HKp1.out) (by simp) (by simp) (by simp) h2
          exact ⟨h1, h4, h5⟩
        · rw [List.getElem?_append_right (by omega)] at hx
          rw [List.getElem?_append_right hi] at hcs
          have h0 : i - cc.length = 0 := by have := (List.getElem?_eq_some_iff.1 hcs).1; simp at this; omega
          rw [hlx, h0] at hx
          rw [h0] at hcs
          obtain rfl : i = cc.length := by omega
          simp at hx hcs
          subst hx; subst hcs
          obtain ⟨h4, h5⟩ := car _ _ _ _ _ _ HM1.out (by simp) (by simp) (by simp) HR.out
          exact ⟨rfl, h4, h5⟩
      · rcases Nat.lt_or_ge i cc.length with hi | hi
        · rw [List.getElem?_append_left (by omega)] at hy
          rw [List.getElem?_append_left hi] at hcs
          obtain ⟨h2, h3⟩ := HK.out.was i y cs hy hcs
          obtain ⟨h4, h5⟩ := car _ _ _ _ _ _ (h3.more HKp1.out) (by simp) (by simp) (by simp) h2
          exact ⟨h4, h5⟩
        · rw [List.getElem?_append_right (by omega)] at hy
          rw [List.getElem?_append_right hi] at hcs
          have h0 : i - cc.length = 0 := by have := (List.getElem?_eq_some_iff.1 hcs).1; simp at this; omega
          rw [hlw, h0] at hy
          rw [h0] at hcs
          obtain rfl : i = cc.length := by omega
          simp at hy hcs
          subst hy; subst hcs
          exact ⟨row_step (row_step HO3.out HM3.out (by simp) HSt8.out) (HM3.out.step HSt8.out) (by simp) hs9, (HM3.out.step HSt8.out).step hs9⟩
    · rw [← hw9]
      have hn1 : ∀ g q, own1 g = some q → q = (1, 2) ∨ q = (1, 3) ∨ q = (0, 0) → own g = some q := fun g q e hq => by
        rcases HNew1.out g q e with h | h
        · exact h
        · have := HM1.out g h; rw [e] at this; cases this
          rcases hq with h | h | h <;> simp at h
      have hn3 : ∀ g q, own3 g = some q → q = (1, 2) ∨ q = (1, 3) ∨ q = (0, 0) → own7 g = some q := fun g q e hq => by
        rcases HNew3.out g q e with h | h
        · exact h
        · subst h
          have := HM3.out g rfl; rw [e] at this; cases this
          rcases hq with h | h | h <;> simp at h
      have c1 : Chg (fun g => ∃ r, own g = some r ∧ (r = (1, 2) ∨ r = (1, 3) ∨ r = (0, 0))) w wm := HStm.out.chg.mono (fun g ⟨r, e, hr⟩ => ⟨r, hn1 g r e (hr.imp id .inr), hr.imp id .inr⟩)
      have up : ∀ g r, own7 g = some r → r = (1, 2) ∨ r = (1, 3) ∨ r = (0, 0) → (∃ r, own g = some r ∧ (r = (1, 2) ∨ r = (1, 3) ∨ r = (0, 0))) ∨ w.heap.size ≤ g := fun g r e hr => by
        rcases HStm.out.new g r e with e2 | e2
        · exact .inl ⟨r, hn1 g r e2 hr, hr⟩
        · exact .inr e2.1
      have up8 : ∀ g r, own8 g = some r → r = (1, 2) ∨ r = (1, 3) ∨ r = (0, 0) → (∃ r, own g = some r ∧ (r = (1, 2) ∨ r = (1, 3) ∨ r = (0, 0))) ∨ w.heap.size ≤ g := fun g r e hr => by
        rcases HSt8.out.new g r e with e2 | e2
        · exact up g r (hn3 g r e2 hr) hr
        · exact .inr (Nat.le_trans (Nat.le_trans c1.size HC3.out.size) e2.1)
      refine ⟨((c1.trans HC3.out (fun _ f => f.elim)).trans HSt8.out.chg (fun g ⟨r, e, hr⟩ => up g r (hn3 g r e (.inr (.inl hr))) (.inr (.inl hr)))).trans hs9.chg (fun g ⟨r, e, hr⟩ => up8 g r e (.inr (.inr hr))), fun g r e => HSt8.out.keep _ _ (HKp3.out _ _ (HStm.out.keep _ _ (HKp1.out _ _ e))), fun g r e => ?_⟩
      rcases HSt8.out.new g r e with e2 | e2
      · rcases HNew3.out g r e2 with e3 | e3
        · rcases HStm.out.new g r e3 with e4 | e4
          · exact (HNew1.out g r e4).imp id .inr
          · exact .inr (.inl e4.1)
        · subst e3
          exact .inr (.inl (Nat.le_trans c1.size HGe3.out))
      · exact .inr (.inl (Nat.le_trans (Nat.le_trans c1.size HC3.out.size) e2.1))
end Go.Proofs.YtckioocahmbhkaaGreatDoor
