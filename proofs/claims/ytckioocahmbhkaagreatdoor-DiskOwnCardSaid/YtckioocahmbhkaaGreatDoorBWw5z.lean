/- Walk: the book's lists of writes are grown: the first turn. -/
import Derived.Test.YtckioocahmbhkaaGreatDoorBWw5y
namespace Go.Proofs.YtckioocahmbhkaaGreatDoor
open Go Go.RowKit Go.Maps

set_option maxRecDepth 100000 in
set_option maxHeartbeats 16000000 in
theorem writesgrow_0 (w0 : World) (own0 : BOwn) (b : Nat) (F : Nat → Value) (c : Int) (hc : F 1 = .int .i64 c) (hcc : 0 ≤ c ∧ c ≤ 1) (rv : Value) (xs : List (Value × Nat)) (hrv : F 29 = rv) (t : Nat) (ht70 : t < 70) (ht : t = 0)
    (id0 : Int) (h0 : 0 ≤ id0) (h1 : id0 + xs.length ≤ 1000000) (hsx : ∀ x ∈ xs, x.2 ≤ 134217728) (w : World) (hS : writesGrewS w0 own0 b F c id0 t 0 (lenG t 0 xs.length) rv xs w) :
    Calls Tryz.prog 84 #[.pointer (some ⟨b, 0, none⟩), .int .i64 id0, .int .i64 (t : Int)] w fun e w' => e = .returned (.int .i64 (id0 + xs.length)) ∧ writesGrewS w0 own0 b F c id0 t xs.length xs.length rv xs w' := by
  have HC := Lib.hid hc
  have HRv := Lib.hid hrv
  have HSx := Lib.hid hsx
  have HS := Lib.hid hS
  obtain ⟨_, _, _, hb0, hr0, hg0, _, _⟩ := hS
  obtain ⟨ra, rc, rfl⟩ := hr0.shape
  have k1 : w.cell? ⟨b, 29, none⟩ = some (.slice ra xs.length rc) := by
    rw [hb0.cell 29 (by omega), setF_other (by decide), hrv]
  obtain ⟨i1, hi1, hz0, hz1, hz2⟩ := info_parts writesinfo
  obtain ⟨i2, hi2, hy0, hy1, hy2⟩ := info_parts writesinfol
  clear hc hrv hsx hb0 hr0 hg0
  go_enter Tryz.func84, Tryz.ntmps84
  go_wp2_with fail
  clear k1
  go_loopg [1, 7, 8] xs.length (fun gm dv iv _ wr => ∃ (i : Nat), i ≤ xs.length ∧ gm = xs.length - i ∧ iv = .int .i64 i ∧ dv = .int .i64 (id0 + i) ∧ writesGrewS w0 own0 b F c id0 t i (lenG t i xs.length) (.slice ra xs.length rc) xs wr)
  case atStart => exact ⟨0, by omega, rfl, rfl, by simp, HS.out⟩
  case round =>
    obtain ⟨i, hi, hgm, rfl, rfl, own1, gv, gs, hb, hr, hg, hgs, hst⟩ := hrel
    have Hg := Lib.hid hgm
    have HB := Lib.hid hb
    have HR := Lib.hid hr
    have HG := Lib.hid hg
    have HGs := Lib.hid hgs
    have HSt := Lib.hid hst
    obtain ⟨ga, gc, rfl⟩ := hg.shape
    have k1 : wr.cell? ⟨b, 29, none⟩ = some (.slice ra xs.length rc) := by rw [hb.cell 29 (by omega), setF_other (by decide), HRv.out]
    have k2 : wr.cell? ⟨b, 31, none⟩ = some (.slice ga gs.length gc) := by rw [hb.cell 31 (by omega), setF_same]
    clear hgm hb hr hg hgs hst
    by_cases hlt : i < xs.length
    · obtain ⟨x, hxi⟩ : ∃ x, xs[i]? = some x := ⟨_, List.getElem?_eq_getElem hlt⟩
      obtain ⟨gr, rc', er, hgr, hcell, -⟩ := HR.out.at' hxi
      cases er
      have HXi := Lib.hid hxi
      have hxs := HSx.out x (List.mem_of_getElem? hxi)
      have hji : (i : Int) < (xs.length : Int) := by omega
      have hj0 : (0 : Int) ≤ (i : Int) := by omega
      clear hxi hgr
      subst ht
      have htb : ((0 : Int) == 0) = true := rfl
      go_upto_region 6 with fail
      refine writespush HRv.out (show writesGrewS w0 own0 b F c id0 0 i i _ xs wr from ⟨own1, _, gs, HB.out, HR.out, HG.out, HGs.out, HSt.out⟩) hlt (by omega) ?_
      intro u22 u23 u24 u25 u26 u27 u28 u29 u30 u31 u32 u33 u34 u35 u36 u37 wq hq
      obtain ⟨own2, gv2, gs2, hb2, hr2, hg2, hgs2, hst2⟩ := hq
      obtain ⟨ga2, gcq, rfl⟩ := hg2.shape
      have HBm := Lib.hid hb2
      have HRm := Lib.hid hr2
      have HGm := Lib.hid hg2
      have HGsm := Lib.hid hgs2
      have HStm2 := Lib.hid hst2
      have HLm : Hid (lenG 0 (i + 1) xs.length = i + 1) := Lib.hid rfl
      clear k1 k2 hcell hb2 hr2 hg2 hgs2 hst2
      have k1 : wq.cell? ⟨b, 29, none⟩ = some (.slice (some ⟨gr, 0, none⟩) xs.length rc) := by rw [HBm.out.cell 29 (by omega), setF_other (by decide), HRv.out]
      have k2 : wq.cell? ⟨b, 31, none⟩ = some (.slice ga2 gs2.length gcq) := by rw [HBm.out.cell 31 (by omega), setF_same]
      have hgi : i < gs2.length := by have := HGsm.out.len; omega
      obtain ⟨y, hyi⟩ : ∃ y, gs2[i]? = some y := ⟨_, List.getElem?_eq_getElem hgi⟩
      obtain ⟨gr2, gc2, er2, hgr2, hcell2, hfz2⟩ := HGm.out.at' hyi
      cases er2
      have hyx := HGsm.out.each i _ y HXi.out hyi
      rw [if_neg (Nat.lt_irrefl i)] at hyx
      obtain ⟨cs2, hro2, hcs2, hmy⟩ := HGsm.out.lg i y hyi
      have HCs2 := Lib.hid hcs2
      obtain ⟨ya, yc, ey, _⟩ := bk_slice hro2
      have HYi := Lib.hid hyi
      have HRo2 := Lib.hid hro2
      have HMy := Lib.hid hmy
      obtain ⟨yv, yn⟩ := y
      simp only at ey hyx
      subst ey
      change wq.cell? ⟨gr2, i, none⟩ = some (.slice ya yn yc) at hcell2
      have hyn : yn ≤ 134217798 := by omega
      have hgi2 : (i : Int) < (gs2.length : Int) := by omega
      have HGr2 := Lib.hid hgr2
      have HYx := Lib.hid hyx
      have HMk : Hid (Calls Tryz.prog 117 #[.pointer (some ⟨b, 0, none⟩), .int .i64 (id0 + (i : Int) + 1), .int .i64 (yn : Int)] wq fun e w' => ∃ n, e = .returned (.agg #[.int .i64 n, .slice none 0 0]) ∧ writesEl c (id0 + (i : Int) + 1) yn (.int .i64 n) (.slice none 0 0) ∧ Chg (fun _ => False) wq w') := Lib.hid ((writesmark_any _ own2 b _ HBm.out c (by rw [setF_other (by decide)]; exact HC.out) hcc (id0 + (i : Int) + 1) (yn : Int) (by omega) (by omega) (by omega) (by omega)).mono (fun _ _ h => ⟨_, h.1, ⟨rfl, rfl⟩, h.2⟩))
      have hii : i < gs2.length := hgi
      clear hro2 hcs2 hmy hyi hgr2 hyx
      go_wp2_with fail
      refine HMk.out.mono ?_
      rintro e w5 ⟨n5, rfl, hel5, hc5⟩
      have HC5 := Lib.hid hc5
      have HEl5 := Lib.hid hel5
      clear hel5 hc5
      have k1 := bk_cell HC5.out k1 (fun f => f)
      have k2 := bk_cell HC5.out k2 (fun f => f)
      have hcell2 := bk_cell HC5.out hcell2 (fun f => f)
      go_wp2_with fail
      obtain ⟨w', hw'⟩ : ∃ w', w' = w5.alloc (.cells #[.int .i64 n5, .slice none 0 0] 78) := ⟨_, rfl⟩
      obtain ⟨tb8, htb8⟩ : ∃ tb8, tb8 = w5.heap.size := ⟨_, rfl⟩
      have hh6 : w'.heap[tb8]? = some (.cells #[.int .i64 n5, .slice none 0 0] 78) := by rw [hw', htb8]; exact bk_new w5 _
      have hc6 : Chg (fun _ => False) w5 w' := by rw [hw']; exact (Chg.refl _ w5).alloc _
      rw [← hw']
      rw [← htb8]
      have HC6 : Hid (Chg (fun _ => False) wq w') := Lib.hid (HC5.out.trans hc6 (fun _ f => f.elim))
      have HO6 : Hid (OStep (fun _ => False) wq own2 w' own2) := Lib.hid (OStep.of0 HBm.out.lt HC6.out)
      have HEl6 := HEl5
      have k1 := bk_cell hc6 k1 (fun f => f)
      have k2 := bk_cell hc6 k2 (fun f => f)
      have hcell2 := bk_cell hc6 hcell2 (fun f => f)
      have t0 : w'.cell? ⟨tb8, 0, none⟩ = some (.int .i64 n5) := by simp [World.cell?, hh6]
      have t1 : w'.cell? ⟨tb8, 1, none⟩ = some (.slice none 0 0) := by simp [World.cell?, hh6]
      have t0a : ∀ o, (w'.alloc o).cell? ⟨tb8, 0, none⟩ = some (.int .i64 n5) := fun o => bk_cell ((Chg.refl (fun _ => False) w').alloc o) t0 (fun f => f)
      have t1a : ∀ o, (w'.alloc o).cell? ⟨tb8, 1, none⟩ = some (.slice none 0 0) := fun o => bk_cell ((Chg.refl (fun _ => False) w').alloc o) t1 (fun f => f)
      have HBm := Lib.hid (HBm.out.step HO6.out (fun f => f))
      have HRm := Lib.hid (HRm.out.step HO6.out (fun f => f))
      have HGm := Lib.hid (HGm.out.step HO6.out (fun f => f))
      have HGsm := Lib.hid (HGsm.out.step HO6.out (fun _ f => f))
      have HStm2 := Lib.hid (HStm2.out.trans (HO6.out.mono (fun _ f => f.elim)))
      have HRo2 := Lib.hid (ownsRow_chg HRo2.out HC6.out (fun _ _ f => f))
      have HCs2 := HCs2
      have HRowY : Hid (∀ o, (w'.alloc o).ownsRow 0 78 2 (.slice ya yn yc) yn cs2) := Lib.hid (fun o => ownsRow_chg HRo2.out ((Chg.refl (fun _ => False) w').alloc o) (fun _ _ f => f))
      have HLtY : Hid (∀ (o : Obj) g r, own2 g = some r → g < (w'.alloc o).heap.size) := Lib.hid (fun o g r e => by have := HBm.out.lt g r e; have e2 : (w'.alloc o).heap.size = w'.heap.size + 1 := Array.size_push _; omega)
      clear hw' htb8 hh6 hc6 HC5 HEl5
      have k2a : ∀ o, (w'.alloc o).cell? ⟨b, 31, none⟩ = some (.slice (some ⟨gr2, 0, none⟩) gs2.length gcq) := fun o => bk_cell ((Chg.refl (fun _ => False) w').alloc o) k2 (fun f => f)
      have hca : ∀ o, (w'.alloc o).cell? ⟨gr2, i, none⟩ = some (.slice ya yn yc) := fun o => bk_cell ((Chg.refl (fun _ => False) w').alloc o) hcell2 (fun f => f)
      go_region_law
        ((refine step_grow (P := Tryz.prog) (w := (w'.alloc (.cells #[.int .i64 n5, .slice none 0 0] 78)).drew) (by rfl) _ _ 54 (by rfl) 78 i1 (.agg #[.int .i64 0, .slice none 0 0]) 2 32 Tryz.underlying54 hi1 hz0 hz1 hz2 rfl (by omega) own2 (fun g r e => HLtY.out _ g r e) (11, i) (fun r => r = (11, i)) rfl (.slice ya yn yc) yn cs2 (by rfl) (HRowY.out _) HMy.out 1 1 ⟨w'.heap.size, 0, none⟩ [.int .i64 n5, .slice none 0 0] (by rfl) rfl (World.news_of_block (cs := #[.int .i64 n5, .slice none 0 0]) (t := 78) (fr := (0, 0)) (bk_new w' _)) (by simp [Value.oneCell']) (by omega) (by unfold maxLen; omega) (by omega) ?_
          intro g8 c8 w8 own8 hr8 hg8 hst8 hold8
          have HSt8 : Hid (OStep (fun r => r = (11, i)) w' own2 w8 own8) := Lib.hid ((OStep.of0 (R := fun r => r = (11, i)) HBm.out.lt (((Chg.refl _ w').alloc _).drew)).trans hst8)
          have HR8 := Lib.hid hr8
          have HG8 := Lib.hid hg8
          have HOld8 : Hid (∀ (n2 : Nat) (v2 : Value) (xs2 : List Value), w'.ownsRow 0 78 2 v2 n2 xs2 → Mine own2 (11, i) v2 → (∀ g, v2.ownBlock = some g → (Value.slice ya yn yc).ownBlock = some g → n2 ≤ yn) → w8.ownsRow 0 78 2 v2 n2 xs2) := Lib.hid (fun n2 v2 xs2 h1 h2 h3 => hold8 n2 v2 xs2 (ownsRow_chg h1 (((Chg.refl (fun _ => False) w').alloc _).drew) (fun _ _ f => f)) h2 h3)
          have HB8 := Lib.hid (HBm.out.step HSt8.out (fun e => by simp at e))
          have HGr8 := Lib.hid (HGm.out.step HSt8.out (fun e => by simp at e))
          have z2 : w8.cell? ⟨gr2, i, none⟩ = some (.slice ya yn yc) := (by obtain ⟨_, _, e9, _, h9, _⟩ := HGr8.out.at' HYi.out; cases e9; exact h9)
          have z1 : w8.cell? ⟨b, 31, none⟩ = some (.slice (some ⟨gr2, 0, none⟩) gs2.length gcq) := (by rw [HB8.out.cell 31 (by omega), setF_same])
          have zf : w8.frozen? ⟨gr2, i, none⟩ = false := (by obtain ⟨_, _, e9, _, _, h9⟩ := HGr8.out.at' HYi.out; cases e9; exact h9)
          clear hr8 hg8 hst8 hold8))
      all_goals
        go_wp2_with fail
        go_roundg (xs.length - (i + 1))
        case measure => have := Hg.out; omega
        case rel =>
          have hgr8 : own8 gr2 = some (1, 31) := HSt8.out.keep _ _ HGr2.out
          have hs9 : OStep (fun r => r = (1, 31)) w8 own8 (w8.setCell ⟨gr2, i, none⟩ (.slice (some ⟨g8, 0, none⟩) (yn + 1) c8)) own8 := OStep.set (R := fun r => r = (1, 31)) HB8.out.lt hgr8 rfl _
          have hgrown := HGsm.out.grown HXi.out HYi.out (g := g8) (cap := c8) (by have h := HRo2.out.1; exact h) HCs2.out HEl6.out HR8.out HG8.out HSt8.out HOld8.out
          exact ⟨i + 1, by omega, rfl, by go_num, by go_num, own8, _, _, HB8.out.step hs9 (by decide), (HRm.out.step HSt8.out (fun e => by simp at e)).step hs9 (by decide), by have h := RowK.setwrites (y := (.slice (some ⟨g8, 0, none⟩) (yn + 1) c8, yn + 1)) HGr8.out rfl hii; exact h, by rw [HLm.out]; exact hgrown.step hs9 (fun k e => by simp at e), (HStm2.out.trans (HSt8.out.mono (fun r e => .inl (by rw [e])))).trans (hs9.mono (fun r e => .inr (.inl e)))⟩
    · have hji : ¬ (i : Int) < (xs.length : Int) := by omega
      subst ht
      have hin : i = xs.length := by omega
      subst hin
      have HFin : Hid (lenG 0 xs.length xs.length = xs.length) := Lib.hid (by unfold lenG; split <;> rfl)
      clear Hg
      go_wp2_with fail
      go_ret
      exact ⟨rfl, own1, _, gs, HB.out, HR.out, HG.out, (by have h := HGs.out; exact h), HSt.out⟩
theorem writesgrow_from (w0 : World) (own0 : BOwn) (b : Nat) (F : Nat → Value) (c : Int) (hc : F 1 = .int .i64 c) (hcc : 0 ≤ c ∧ c ≤ 1) (rv : Value) (xs : List (Value × Nat)) (hrv : F 29 = rv) (t : Nat) (ht70 : t < 70)
    (id0 : Int) (h0 : 0 ≤ id0) (h1 : id0 + xs.length ≤ 1000000) (hsx : ∀ x ∈ xs, x.2 ≤ 134217728) (w : World) (hS : writesGrewS w0 own0 b F c id0 t 0 (lenG t 0 xs.length) rv xs w) :
    Calls Tryz.prog 84 #[.pointer (some ⟨b, 0, none⟩), .int .i64 id0, .int .i64 (t : Int)] w fun e w' => e = .returned (.int .i64 (id0 + xs.length)) ∧ writesGrewS w0 own0 b F c id0 t xs.length xs.length rv xs w' := by
  by_cases ht : t = 0
  · exact writesgrow_0 w0 own0 b F c hc hcc rv xs hrv t ht70 ht id0 h0 h1 hsx w hS
  · exact writesgrow_1 w0 own0 b F c hc hcc rv xs hrv t ht70 ht id0 h0 h1 hsx w hS
end Go.Proofs.YtckioocahmbhkaaGreatDoor
