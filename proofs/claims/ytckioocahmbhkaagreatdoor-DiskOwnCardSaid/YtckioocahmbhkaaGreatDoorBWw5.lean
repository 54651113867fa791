/- Walk: the book's lists of writes are grown. -/
import Derived.Test.YtckioocahmbhkaaGreatDoorBWw4
import Derived.Test.YtckioocahmbhkaaGreatDoorBKb5
namespace Go.Proofs.YtckioocahmbhkaaGreatDoor
open Go Go.RowKit Go.Maps

theorem writesinfo : (Tryz.prog.info? 78).map (fun i => (i.zero, i.size, i.bytes)) = some (some (.agg #[.int .i64 0, .slice none 0 0]), 2, 32) := by kernel_rfl
theorem writesinfol : (Tryz.prog.info? 54).map (fun i => (i.zero, i.size, i.bytes)) = some (some (.slice none 0 0), 1, 24) := by kernel_rfl
/-- In the turn t, ahead of list i. -/
structure writesGrowing (w : World) (own : BOwn) (c id0 : Int) (t i L : Nat) (xs gs : List (Value × Nat)) : Prop where
  len : gs.length = L
  each : ∀ (k : Nat) x y, xs[k]? = some x → gs[k]? = some y → y.2 = x.2 + t + (if k < i then 1 else 0)
  lx : Lists w own 11 78 2 xs (fun k n cs => writesRow c (id0 + k + 1) n cs)
  lg : Lists w own 11 78 2 gs (fun k n cs => writesRow c (id0 + k + 1) n cs)
theorem writesGrowing.step {R : Nat × Nat → Prop} {w w' : World} {own own' : BOwn} {c id0 : Int} {t i L : Nat} {xs gs : List (Value × Nat)} (h : writesGrowing w own c id0 t i L xs gs) (k : OStep R w own w' own') (hr : ∀ i, ¬ R (11, i)) : writesGrowing w' own' c id0 t i L xs gs :=
  ⟨h.len, h.each, h.lx.step k hr, h.lg.step k hr⟩
theorem writesGrowing.push {w : World} {own : BOwn} {c id0 : Int} {i : Nat} {xs gs : List (Value × Nat)} {x : Value × Nat} (h : writesGrowing w own c id0 0 i i xs gs) (hx : xs[i]? = some x) : writesGrowing w own c id0 0 i (i + 1) xs (gs ++ [x]) := by
  refine ⟨by simp [h.len], fun k x' y hx' hy => ?_, h.lx, fun k y hy => ?_⟩
  · rcases Nat.lt_or_ge k i with hk | hk
    · rw [List.getElem?_append_left (by rw [h.len]; exact hk)] at hy
      exact h.each k x' y hx' hy
    · rw [List.getElem?_append_right (by rw [h.len]; exact hk), h.len] at hy
      have h0 : k - i = 0 := by have := (List.getElem?_eq_some_iff.1 hy).1; simp at this; omega
      rw [h0] at hy
      obtain rfl : k = i := by omega
      rw [hx] at hx'
      simp at hy; cases hx'; subst hy
      simp
  · rcases Nat.lt_or_ge k i with hk | hk
    · rw [List.getElem?_append_left (by rw [h.len]; exact hk)] at hy
      exact h.lg k y hy
    · rw [List.getElem?_append_right (by rw [h.len]; exact hk), h.len] at hy
      have h0 : k - i = 0 := by have := (List.getElem?_eq_some_iff.1 hy).1; simp at this; omega
      rw [h0] at hy
      obtain rfl : k = i := by omega
      simp at hy; subst hy
      exact h.lx k _ hx
theorem writesGrowing.grown {w : World} {own : BOwn} {c id0 : Int} {t i L : Nat} {xs gs : List (Value × Nat)} {x y : Value × Nat} (h : writesGrowing w own c id0 t i L xs gs) (hx : xs[i]? = some x) (hy : gs[i]? = some y) {w' : World} {own' : BOwn} {g cap : Nat}
    {cs0 : List Value} {p q : Value} (hl0 : cs0.length = y.2 * 2) (hcs : writesRow c (id0 + i + 1) y.2 cs0) (hel : writesEl c (id0 + i + 1) y.2 p q) (hrow : w'.ownsRow 0 78 2 (.slice (some ⟨g, 0, none⟩) (y.2 + 1) cap) (y.2 + 1) (cs0 ++ [p, q])) (hg : own' g = some (11, i)) (hst : OStep (fun r => r = (11, i)) w own w' own')
    (hold : ∀ (n2 : Nat) (v2 : Value) (xs2 : List Value), w.ownsRow 0 78 2 v2 n2 xs2 → Mine own (11, i) v2 → (∀ g, v2.ownBlock = some g → y.1.ownBlock = some g → n2 ≤ y.2) → w'.ownsRow 0 78 2 v2 n2 xs2) :
    writesGrowing w' own' c id0 t (i + 1) L xs (gs.set i (.slice (some ⟨g, 0, none⟩) (y.2 + 1) cap, y.2 + 1)) := by
  have hxy := h.each i x y hx hy
  rw [if_neg (Nat.lt_irrefl i)] at hxy
  refine ⟨by rw [List.length_set]; exact h.len, fun k x' y' hx' hy' => ?_, fun k x' hx' => ?_, fun k y' hy' => ?_⟩
  · rw [List.getElem?_set] at hy'
    by_cases e : i = k
    · subst e
      rw [if_pos rfl, if_pos (List.getElem?_eq_some_iff.1 hy).1] at hy'
      rw [hx] at hx'; cases hx'; cases hy'
      rw [if_pos (by omega)]; simp only; omega
    · rw [if_neg e] at hy'
      have := h.each k x' y' hx' hy'
      rw [this]
      by_cases hk : k < i
      · rw [if_pos hk, if_pos (by omega)]
      · rw [if_neg hk, if_neg (by omega)]
  · obtain ⟨cs, h1, h2, h3⟩ := h.lx k x' hx'
    by_cases e : k = i
    · subst e
      rw [hx] at hx'; cases hx'
      exact ⟨cs, hold _ _ _ h1 h3 (fun _ _ _ => by omega), h2, h3.step hst⟩
    · exact ⟨cs, row_step h1 h3 (fun e2 => e (by injection e2)) hst, h2, h3.step hst⟩
  · rw [List.getElem?_set] at hy'
    by_cases e : i = k
    · subst e
      rw [if_pos rfl, if_pos (List.getElem?_eq_some_iff.1 hy).1] at hy'
      cases hy'
      exact ⟨_, hrow, hcs.snoc hl0 hel, fun g' e' => by simp only [Value.ownBlock, Option.some.injEq] at e'; subst e'; exact hg⟩
    · rw [if_neg e] at hy'
      obtain ⟨cs, h1, h2, h3⟩ := h.lg k y' hy'
      exact ⟨cs, row_step h1 h3 (fun e2 => e (by injection e2 with _ e3; exact e3.symm)) hst, h2, h3.step hst⟩
theorem RowK.setwrites {w : World} {own : BOwn} {tl : TypeId} {rk i g cap : Nat} {rv : Value} {xs : List (Value × Nat)} {y : Value × Nat} (h : RowK w own tl rk rv xs) (e : rv = .slice (some ⟨g, 0, none⟩) xs.length cap) (hi : i < xs.length) : RowK (w.setCell ⟨g, i, none⟩ y.1) own tl rk rv (xs.set i y) := by
  subst e
  refine ⟨?_, h.mine⟩
  have := ownsRow_setCell h.row i y.1 (by simpa using hi)
  rw [List.length_set, List.map_set]
  exact this
/-- What Grow leaves. -/
def writesGrewS (w : World) (own : BOwn) (b : Nat) (F : Nat → Value) (c id0 : Int) (t i : Nat) (L : Nat) (rv : Value) (xs : List (Value × Nat)) (w' : World) : Prop :=
  ∃ (own' : BOwn) (gv : Value) (gs : List (Value × Nat)), BookF 39 w' own' b (setF F 31 gv) ∧ RowK w' own' 54 29 rv xs ∧ RowK w' own' 54 31 gv gs ∧ writesGrowing w' own' c id0 t i L xs gs ∧ OStep (fun r => r.1 = 11 ∨ r = (1, 31) ∨ r = (0, 0)) w own w' own'

set_option maxRecDepth 100000 in
set_option maxHeartbeats 16000000 in
theorem writesgrow_1 (w0 : World) (own0 : BOwn) (b : Nat) (F : Nat → Value) (c : Int) (hc : F 1 = .int .i64 c) (hcc : 0 ≤ c ∧ c ≤ 1) (rv : Value) (xs : List (Value × Nat)) (hrv : F 29 = rv) (t : Nat) (ht70 : t < 70) (ht : ¬ t = 0)
    (id0 : Int) (h0 : 0 ≤ id0) (h1 : id0 + xs.length ≤ 1000000) (hsx : ∀ x ∈ xs, x.2 ≤ 134217728) (w : World) (hS : writesGrewS w0 own0 b F c id0 t 0 (lenG t 0 xs.length) rv xs w) :
    Calls Tryz.prog 84 #[.pointer (some ⟨b, 0, none⟩), .int .i64 id0, .int .i64 (t : Int)] w fun e w' => e = .returned (.int .i64 (id0 + xs.length)) ∧ writesGrewS w0 own0 b F c id0 t xs.length xs.length rv xs w' := by
  have HC := Lib.hid hc
  have HRv := Lib.hid hrv
  have HSx := Lib.hid hsx
  have HS := Lib.hid hS
  obtain ⟨_, _, _, hb0, hr0, hg0, _, _⟩ := hS
  obtain ⟨ra, rc, rfl⟩ := hr0.shape
  have k1 : w.cell? ⟨b, 29, none⟩ = some (.slice ra xs.length rc) := by
    rw [hb0.cell 29 (by omega), setF_other (by decide), hrv]
  obtain ⟨i1, hi1, hz0, hz1, hz2⟩ := info_parts writesinfo
  obtain ⟨i2, hi2, hy0, hy1, hy2⟩ := info_parts writesinfol
  clear hc hrv hsx hb0 hr0 hg0
  go_enter Tryz.func84, Tryz.ntmps84
  go_wp2_with fail
  clear k1
  go_loopg [1, 7, 8] xs.length (fun gm dv iv _ wr => ∃ (i : Nat), i ≤ xs.length ∧ gm = xs.length - i ∧ iv = .int .i64 i ∧ dv = .int .i64 (id0 + i) ∧ writesGrewS w0 own0 b F c id0 t i (lenG t i xs.length) (.slice ra xs.length rc) xs wr)
  case atStart => exact ⟨0, by omega, rfl, rfl, by simp, HS.out⟩
  case round =>
    obtain ⟨i, hi, hgm, rfl, rfl, own1, gv, gs, hb, hr, hg, hgs, hst⟩ := hrel
    have Hg := Lib.hid hgm
    have HB := Lib.hid hb
    have HR := Lib.hid hr
    have HG := Lib.hid hg
    have HGs := Lib.hid hgs
    have HSt := Lib.hid hst
    obtain ⟨ga, gc, rfl⟩ := hg.shape
    have k1 : wr.cell? ⟨b, 29, none⟩ = some (.slice ra xs.length rc) := by rw [hb.cell 29 (by omega), setF_other (by decide), HRv.out]
    have k2 : wr.cell? ⟨b, 31, none⟩ = some (.slice ga gs.length gc) := by rw [hb.cell 31 (by omega), setF_same]
    clear hgm hb hr hg hgs hst
    by_cases hlt : i < xs.length
    · obtain ⟨x, hxi⟩ : ∃ x, xs[i]? = some x := ⟨_, List.getElem?_eq_getElem hlt⟩
      obtain ⟨gr, rc', er, hgr, hcell, -⟩ := HR.out.at' hxi
      cases er
      have HXi := Lib.hid hxi
      have hxs := HSx.out x (List.mem_of_getElem? hxi)
      have hji : (i : Int) < (xs.length : Int) := by omega
      have hj0 : (0 : Int) ≤ (i : Int) := by omega
      clear hxi hgr
      have htb : (((t : Nat) : Int) == 0) = false := by rw [beq_eq_false_iff_ne]; omega
      have HBm := HB
      have HRm := HR
      have HGm := HG
      have HLm : Hid (lenG t (i + 1) xs.length = xs.length) := Lib.hid (by unfold lenG; rw [if_neg ht])
      have HGsm : Hid (writesGrowing wr own1 c id0 t i xs.length xs gs) := Lib.hid (by have h := HGs.out; unfold lenG at h; rw [if_neg ht] at h; exact h)
      have HStm2 := HSt
      have hgi : i < gs.length := by have := HGsm.out.len; omega
      clear ht hcell
      obtain ⟨y, hyi⟩ : ∃ y, gs[i]? = some y := ⟨_, List.getElem?_eq_getElem hgi⟩
      obtain ⟨gr2, gc2, er2, hgr2, hcell2, hfz2⟩ := HGm.out.at' hyi
      cases er2
      have hyx := HGsm.out.each i _ y HXi.out hyi
      rw [if_neg (Nat.lt_irrefl i)] at hyx
      obtain ⟨cs2, hro2, hcs2, hmy⟩ := HGsm.out.lg i y hyi
      have HCs2 := Lib.hid hcs2
      obtain ⟨ya, yc, ey, _⟩ := bk_slice hro2
      have HYi := Lib.hid hyi
      have HRo2 := Lib.hid hro2
      have HMy := Lib.hid hmy
      obtain ⟨yv, yn⟩ := y
      simp only at ey hyx
      subst ey
      change wr.cell? ⟨gr2, i, none⟩ = some (.slice ya yn yc) at hcell2
      have hyn : yn ≤ 134217798 := by omega
      have hgi2 : (i : Int) < (gs.length : Int) := by omega
      have HGr2 := Lib.hid hgr2
      have HYx := Lib.hid hyx
      have HMk : Hid (Calls Tryz.prog 117 #[.pointer (some ⟨b, 0, none⟩), .int .i64 (id0 + (i : Int) + 1), .int .i64 (yn : Int)] wr fun e w' => ∃ n, e = .returned (.agg #[.int .i64 n, .slice none 0 0]) ∧ writesEl c (id0 + (i : Int) + 1) yn (.int .i64 n) (.slice none 0 0) ∧ Chg (fun _ => False) wr w') := Lib.hid ((writesmark_any _ own1 b _ HBm.out c (by rw [setF_other (by decide)]; exact HC.out) hcc (id0 + (i : Int) + 1) (yn : Int) (by omega) (by omega) (by omega) (by omega)).mono (fun _ _ h => ⟨_, h.1, ⟨rfl, rfl⟩, h.2⟩))
      have hii : i < gs.length := hgi
      clear hro2 hcs2 hmy hyi hgr2 hyx
      go_wp2_with fail
      refine HMk.out.mono ?_
      rintro e w5 ⟨n5, rfl, hel5, hc5⟩
      have HC5 := Lib.hid hc5
      have HEl5 := Lib.hid hel5
      clear hel5 hc5
      have k1 := bk_cell HC5.out k1 (fun f => f)
      have k2 := bk_cell HC5.out k2 (fun f => f)
      have hcell2 := bk_cell HC5.out hcell2 (fun f => f)
      go_wp2_with fail
      obtain ⟨w', hw'⟩ : ∃ w', w' = w5.alloc (.cells #[.int .i64 n5, .slice none 0 0] 78) := ⟨_, rfl⟩
      obtain ⟨tb8, htb8⟩ : ∃ tb8, tb8 = w5.heap.size := ⟨_, rfl⟩
      have hh6 : w'.heap[tb8]? = some (.cells #[.int .i64 n5, .slice none 0 0] 78) := by rw [hw', htb8]; exact bk_new w5 _
      have hc6 : Chg (fun _ => False) w5 w' := by rw [hw']; exact (Chg.refl _ w5).alloc _
      rw [← hw']
      rw [← htb8]
      have HC6 : Hid (Chg (fun _ => False) wr w') := Lib.hid (HC5.out.trans hc6 (fun _ f => f.elim))
      have HO6 : Hid (OStep (fun _ => False) wr own1 w' own1) := Lib.hid (OStep.of0 HBm.out.lt HC6.out)
      have HEl6 := HEl5
      have k1 := bk_cell hc6 k1 (fun f => f)
      have k2 := bk_cell hc6 k2 (fun f => f)
      have hcell2 := bk_cell hc6 hcell2 (fun f => f)
      have t0 : w'.cell? ⟨tb8, 0, none⟩ = some (.int .i64 n5) := by simp [World.cell?, hh6]
      have t1 : w'.cell? ⟨tb8, 1, none⟩ = some (.slice none 0 0) := by simp [World.cell?, hh6]
      have t0a : ∀ o, (w'.alloc o).cell? ⟨tb8, 0, none⟩ = some (.int .i64 n5) := fun o => bk_cell ((Chg.refl (fun _ => False) w').alloc o) t0 (fun f => f)
      have t1a : ∀ o, (w'.alloc o).cell? ⟨tb8, 1, none⟩ = some (.slice none 0 0) := fun o => bk_cell ((Chg.refl (fun _ => False) w').alloc o) t1 (fun f => f)
      have HBm := Lib.hid (HBm.out.step HO6.out (fun f => f))
      have HRm := Lib.hid (HRm.out.step HO6.out (fun f => f))
      have HGm := Lib.hid (HGm.out.step HO6.out (fun f => f))
      have HGsm := Lib.hid (HGsm.out.step HO6.out (fun _ f => f))
      have HStm2 := Lib.hid (HStm2.out.trans (HO6.out.mono (fun _ f => f.elim)))
      have HRo2 := Lib.hid (ownsRow_chg HRo2.out HC6.out (fun _ _ f => f))
      have HCs2 := HCs2
      have HRowY : Hid (∀ o, (w'.alloc o).ownsRow 0 78 2 (.slice ya yn yc) yn cs2) := Lib.hid (fun o => ownsRow_chg HRo2.out ((Chg.refl (fun _ => False) w').alloc o) (fun _ _ f => f))
      have HLtY : Hid (∀ (o : Obj) g r, own1 g = some r → g < (w'.alloc o).heap.size) := Lib.hid (fun o g r e => by have := HBm.out.lt g r e; have e2 : (w'.alloc o).heap.size = w'.heap.size + 1 := Array.size_push _; omega)
      clear hw' htb8 hh6 hc6 HC5 HEl5
      have k2a : ∀ o, (w'.alloc o).cell? ⟨b, 31, none⟩ = some (.slice (some ⟨gr2, 0, none⟩) gs.length gc) := fun o => bk_cell ((Chg.refl (fun _ => False) w').alloc o) k2 (fun f => f)
      have hca : ∀ o, (w'.alloc o).cell? ⟨gr2, i, none⟩ = some (.slice ya yn yc) := fun o => bk_cell ((Chg.refl (fun _ => False) w').alloc o) hcell2 (fun f => f)
      go_region_law
        ((refine step_grow (P := Tryz.prog) (w := (w'.alloc (.cells #[.int .i64 n5, .slice none 0 0] 78)).drew) (by rfl) _ _ 54 (by rfl) 78 i1 (.agg #[.int .i64 0, .slice none 0 0]) 2 32 Tryz.underlying54 hi1 hz0 hz1 hz2 rfl (by omega) own1 (fun g r e => HLtY.out _ g r e) (11, i) (fun r => r = (11, i)) rfl (.slice ya yn yc) yn cs2 (by rfl) (HRowY.out _) HMy.out 1 1 ⟨w'.heap.size, 0, none⟩ [.int .i64 n5, .slice none 0 0] (by rfl) rfl (World.news_of_block (cs := #[.int .i64 n5, .slice none 0 0]) (t := 78) (fr := (0, 0)) (bk_new w' _)) (by simp [Value.oneCell']) (by omega) (by unfold maxLen; omega) (by omega) ?_
          intro g8 c8 w8 own8 hr8 hg8 hst8 hold8
          have HSt8 : Hid (OStep (fun r => r = (11, i)) w' own1 w8 own8) := Lib.hid ((OStep.of0 (R := fun r => r = (11, i)) HBm.out.lt (((Chg.refl _ w').alloc _).drew)).trans hst8)
          have HR8 := Lib.hid hr8
          have HG8 := Lib.hid hg8
          have HOld8 : Hid (∀ (n2 : Nat) (v2 : Value) (xs2 : List Value), w'.ownsRow 0 78 2 v2 n2 xs2 → Mine own1 (11, i) v2 → (∀ g, v2.ownBlock = some g → (Value.slice ya yn yc).ownBlock = some g → n2 ≤ yn) → w8.ownsRow 0 78 2 v2 n2 xs2) := Lib.hid (fun n2 v2 xs2 h1 h2 h3 => hold8 n2 v2 xs2 (ownsRow_chg h1 (((Chg.refl (fun _ => False) w').alloc _).drew) (fun _ _ f => f)) h2 h3)
          have HB8 := Lib.hid (HBm.out.step HSt8.out (fun e => by simp at e))
          have HGr8 := Lib.hid (HGm.out.step HSt8.out (fun e => by simp at e))
          have z2 : w8.cell? ⟨gr2, i, none⟩ = some (.slice ya yn yc) := (by obtain ⟨_, _, e9, _, h9, _⟩ := HGr8.out.at' HYi.out; cases e9; exact h9)
          have z1 : w8.cell? ⟨b, 31, none⟩ = some (.slice (some ⟨gr2, 0, none⟩) gs.length gc) := (by rw [HB8.out.cell 31 (by omega), setF_same])
          have zf : w8.frozen? ⟨gr2, i, none⟩ = false := (by obtain ⟨_, _, e9, _, _, h9⟩ := HGr8.out.at' HYi.out; cases e9; exact h9)
          clear hr8 hg8 hst8 hold8))
      all_goals
        go_wp2_with fail
        go_roundg (xs.length - (i + 1))
        case measure => have := Hg.out; omega
        case rel =>
          have hgr8 : own8 gr2 = some (1, 31) := HSt8.out.keep _ _ HGr2.out
          have hs9 : OStep (fun r => r = (1, 31)) w8 own8 (w8.setCell ⟨gr2, i, none⟩ (.slice (some ⟨g8, 0, none⟩) (yn + 1) c8)) own8 := OStep.set (R := fun r => r = (1, 31)) HB8.out.lt hgr8 rfl _
          have hgrown := HGsm.out.grown HXi.out HYi.out (g := g8) (cap := c8) (by have h := HRo2.out.1; exact h) HCs2.out HEl6.out HR8.out HG8.out HSt8.out HOld8.out
          exact ⟨i + 1, by omega, rfl, by go_num, by go_num, own8, _, _, HB8.out.step hs9 (by decide), (HRm.out.step HSt8.out (fun e => by simp at e)).step hs9 (by decide), by have h := RowK.setwrites (y := (.slice (some ⟨g8, 0, none⟩) (yn + 1) c8, yn + 1)) HGr8.out rfl hii; exact h, by rw [HLm.out]; exact hgrown.step hs9 (fun k e => by simp at e), (HStm2.out.trans (HSt8.out.mono (fun r e => .inl (by rw [e])))).trans (hs9.mono (fun r e => .inr (.inl e)))⟩
    · have hji : ¬ (i : Int) < (xs.length : Int) := by omega
      have hin : i = xs.length := by omega
      subst hin
      have HFin : Hid (lenG t xs.length xs.length = xs.length) := Lib.hid (by unfold lenG; split <;> rfl)
      clear Hg
      go_wp2_with fail
      go_ret
      exact ⟨rfl, own1, _, gs, HB.out, HR.out, HG.out, (by have h := HGs.out; rw [HFin.out] at h; exact h), HSt.out⟩
end Go.Proofs.YtckioocahmbhkaaGreatDoor
