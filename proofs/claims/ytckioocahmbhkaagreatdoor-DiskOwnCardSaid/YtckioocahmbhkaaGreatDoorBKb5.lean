/- Walk: the book's lists of bytes are grown. -/
import Derived.Test.YtckioocahmbhkaaGreatDoorBKb4
namespace Go.Proofs.YtckioocahmbhkaaGreatDoor
open Go Go.RowKit Go.Maps

theorem bytesinfo : (Tryz.prog.info? 5).map (fun i => (i.zero, i.size, i.bytes)) = some (some (.int .u8 0), 1, 1) := by kernel_rfl
theorem bytesinfol : (Tryz.prog.info? 47).map (fun i => (i.zero, i.size, i.bytes)) = some (some (.slice none 0 0), 1, 24) := by kernel_rfl
/-- In the turn t, ahead of list i. -/
structure bytesGrowing (w : World) (own : BOwn) (c id0 : Int) (t i L : Nat) (xs gs : List (Value × Nat)) : Prop where
  len : gs.length = L
  each : ∀ (k : Nat) x y, xs[k]? = some x → gs[k]? = some y → y.2 = x.2 + t + (if k < i then 1 else 0)
  lx : Lists w own 2 5 1 xs (fun k n cs => cs = bytesmarks c (id0 + k + 1) n)
  lg : Lists w own 2 5 1 gs (fun k n cs => cs = bytesmarks c (id0 + k + 1) n)
theorem bytesGrowing.step {R : Nat × Nat → Prop} {w w' : World} {own own' : BOwn} {c id0 : Int} {t i L : Nat} {xs gs : List (Value × Nat)} (h : bytesGrowing w own c id0 t i L xs gs) (k : OStep R w own w' own') (hr : ∀ i, ¬ R (2, i)) : bytesGrowing w' own' c id0 t i L xs gs :=
  ⟨h.len, h.each, h.lx.step k hr, h.lg.step k hr⟩
theorem bytesGrowing.push {w : World} {own : BOwn} {c id0 : Int} {i : Nat} {xs gs : List (Value × Nat)} {x : Value × Nat} (h : bytesGrowing w own c id0 0 i i xs gs) (hx : xs[i]? = some x) : bytesGrowing w own c id0 0 i (i + 1) xs (gs ++ [x]) := by
  refine ⟨by simp [h.len], fun k x' y hx' hy => ?_, h.lx, fun k y hy => ?_⟩
  · rcases Nat.lt_or_ge k i with hk | hk
    · rw [List.getElem?_append_left (by rw [h.len]; exact hk)] at hy
      exact h.each k x' y hx' hy
    · rw [List.getElem?_append_right (by rw [h.len]; exact hk), h.len] at hy
      have h0 : k - i = 0 := by have := (List.getElem?_eq_some_iff.1 hy).1; simp at this; omega
      rw [h0] at hy
      obtain rfl : k = i := by omega
      rw [hx] at hx'
      simp at hy; cases hx'; subst hy
      simp
  · rcases Nat.lt_or_ge k i with hk | hk
    · rw [List.getElem?_append_left (by rw [h.len]; exact hk)] at hy
      exact h.lg k y hy
    · rw [List.getElem?_append_right (by rw [h.len]; exact hk), h.len] at hy
      have h0 : k - i = 0 := by have := (List.getElem?_eq_some_iff.1 hy).1; simp at this; omega
      rw [h0] at hy
      obtain rfl : k = i := by omega
      simp at hy; subst hy
      exact h.lx k _ hx
theorem bytesGrowing.grown {w : World} {own : BOwn} {c id0 : Int} {t i L : Nat} {xs gs : List (Value × Nat)} {x y : Value × Nat} (h : bytesGrowing w own c id0 t i L xs gs) (hx : xs[i]? = some x) (hy : gs[i]? = some y) {w' : World} {own' : BOwn} {g cap : Nat}
    (hrow : w'.ownsRow 0 5 1 (.slice (some ⟨g, 0, none⟩) (y.2 + 1) cap) (y.2 + 1) (bytesmarks c (id0 + i + 1) y.2 ++ [.int .u8 (bytesmark c (id0 + i + 1) y.2)])) (hg : own' g = some (2, i)) (hst : OStep (fun r => r = (2, i)) w own w' own')
    (hold : ∀ (n2 : Nat) (v2 : Value) (xs2 : List Value), w.ownsRow 0 5 1 v2 n2 xs2 → Mine own (2, i) v2 → (∀ g, v2.ownBlock = some g → y.1.ownBlock = some g → n2 ≤ y.2) → w'.ownsRow 0 5 1 v2 n2 xs2) :
    bytesGrowing w' own' c id0 t (i + 1) L xs (gs.set i (.slice (some ⟨g, 0, none⟩) (y.2 + 1) cap, y.2 + 1)) := by
  have hxy := h.each i x y hx hy
  rw [if_neg (Nat.lt_irrefl i)] at hxy
  refine ⟨by rw [List.length_set]; exact h.len, fun k x' y' hx' hy' => ?_, fun k x' hx' => ?_, fun k y' hy' => ?_⟩
  · rw [List.getElem?_set] at hy'
    by_cases e : i = k
    · subst e
      rw [if_pos rfl, if_pos (List.getElem?_eq_some_iff.1 hy).1] at hy'
      rw [hx] at hx'; cases hx'; cases hy'
      rw [if_pos (by omega)]; simp only; omega
    · rw [if_neg e] at hy'
      have := h.each k x' y' hx' hy'
      rw [this]
      by_cases hk : k < i
      · rw [if_pos hk, if_pos (by omega)]
      · rw [if_neg hk, if_neg (by omega)]
  · obtain ⟨cs, h1, h2, h3⟩ := h.lx k x' hx'
    by_cases e : k = i
    · subst e
      rw [hx] at hx'; cases hx'
      exact ⟨cs, hold _ _ _ h1 h3 (fun _ _ _ => by omega), h2, h3.step hst⟩
    · exact ⟨cs, row_step h1 h3 (fun e2 => e (by injection e2)) hst, h2, h3.step hst⟩
  · rw [List.getElem?_set] at hy'
    by_cases e : i = k
    · subst e
      rw [if_pos rfl, if_pos (List.getElem?_eq_some_iff.1 hy).1] at hy'
      cases hy'
      exact ⟨_, hrow, (bytesmarks_snoc _ _ _).symm, fun g' e' => by simp only [Value.ownBlock, Option.some.injEq] at e'; subst e'; exact hg⟩
    · rw [if_neg e] at hy'
      obtain ⟨cs, h1, h2, h3⟩ := h.lg k y' hy'
      exact ⟨cs, row_step h1 h3 (fun e2 => e (by injection e2 with _ e3; exact e3.symm)) hst, h2, h3.step hst⟩
theorem RowK.setbytes {w : World} {own : BOwn} {tl : TypeId} {rk i g cap : Nat} {rv : Value} {xs : List (Value × Nat)} {y : Value × Nat} (h : RowK w own tl rk rv xs) (e : rv = .slice (some ⟨g, 0, none⟩) xs.length cap) (hi : i < xs.length) : RowK (w.setCell ⟨g, i, none⟩ y.1) own tl rk rv (xs.set i y) := by
  subst e
  refine ⟨?_, h.mine⟩
  have := ownsRow_setCell h.row i y.1 (by simpa using hi)
  rw [List.length_set, List.map_set]
  exact this
theorem setF_setF (F : Nat → Value) (i : Nat) (u v : Value) : setF (setF F i u) i v = setF F i v := by
  funext j; unfold setF; split <;> rfl

/-- What Grow leaves. -/
def bytesGrewS (w : World) (own : BOwn) (b : Nat) (F : Nat → Value) (c id0 : Int) (t i : Nat) (L : Nat) (rv : Value) (xs : List (Value × Nat)) (w' : World) : Prop :=
  ∃ (own' : BOwn) (gv : Value) (gs : List (Value × Nat)), BookF 39 w' own' b (setF F 4 gv) ∧ RowK w' own' 47 2 rv xs ∧ RowK w' own' 47 4 gv gs ∧ bytesGrowing w' own' c id0 t i L xs gs ∧ OStep (fun r => r.1 = 2 ∨ r = (1, 4) ∨ r = (0, 0)) w own w' own'
def lenG (t i n : Nat) : Nat := if t = 0 then i else n

set_option maxRecDepth 100000 in
set_option maxHeartbeats 16000000 in
theorem bytesgrow_from (w0 : World) (own0 : BOwn) (b : Nat) (F : Nat → Value) (c : Int) (hc : F 1 = .int .i64 c) (hcc : 0 ≤ c ∧ c ≤ 1) (rv : Value) (xs : List (Value × Nat)) (hrv : F 2 = rv) (t : Nat) (ht70 : t < 70)
    (id0 : Int) (h0 : 0 ≤ id0) (h1 : id0 + xs.length ≤ 1000000) (hsx : ∀ x ∈ xs, x.2 ≤ 134217728) (w : World) (hS : bytesGrewS w0 own0 b F c id0 t 0 (lenG t 0 xs.length) rv xs w) :
    Calls Tryz.prog 75 #[.pointer (some ⟨b, 0, none⟩), .int .i64 id0, .int .i64 (t : Int)] w fun e w' => e = .returned (.int .i64 (id0 + xs.length)) ∧ bytesGrewS w0 own0 b F c id0 t xs.length xs.length rv xs w' := by
  have HC := Lib.hid hc
  have HRv := Lib.hid hrv
  have HSx := Lib.hid hsx
  have HS := Lib.hid hS
  obtain ⟨_, _, _, hb0, hr0, hg0, _, _⟩ := hS
  obtain ⟨ra, rc, rfl⟩ := hr0.shape
  have k1 : w.cell? ⟨b, 2, none⟩ = some (.slice ra xs.length rc) := by
    rw [hb0.cell 2 (by omega), setF_other (by decide), hrv]
  obtain ⟨i1, hi1, hz0, hz1, hz2⟩ := info_parts bytesinfo
  obtain ⟨i2, hi2, hy0, hy1, hy2⟩ := info_parts bytesinfol
  clear hc hrv hsx hb0 hr0 hg0
  go_enter Tryz.func75, Tryz.ntmps75
  go_wp2_with fail
  clear k1
  go_loopg [1, 7, 8] xs.length (fun gm dv iv _ wr => ∃ (i : Nat), i ≤ xs.length ∧ gm = xs.length - i ∧ iv = .int .i64 i ∧ dv = .int .i64 (id0 + i) ∧ bytesGrewS w0 own0 b F c id0 t i (lenG t i xs.length) (.slice ra xs.length rc) xs wr)
  case atStart => exact ⟨0, by omega, rfl, rfl, by simp, HS.out⟩
  case round =>
    obtain ⟨i, hi, hgm, rfl, rfl, own1, gv, gs, hb, hr, hg, hgs, hst⟩ := hrel
    have Hg := Lib.hid hgm
    have HB := Lib.hid hb
    have HR := Lib.hid hr
    have HG := Lib.hid hg
    have HGs := Lib.hid hgs
    have HSt := Lib.hid hst
    obtain ⟨ga, gc, rfl⟩ := hg.shape
    have k1 : wr.cell? ⟨b, 2, none⟩ = some (.slice ra xs.length rc) := by rw [hb.cell 2 (by omega), setF_other (by decide), HRv.out]
    have k2 : wr.cell? ⟨b, 4, none⟩ = some (.slice ga gs.length gc) := by rw [hb.cell 4 (by omega), setF_same]
    clear hgm hb hr hg hgs hst
    by_cases hlt : i < xs.length
    · obtain ⟨x, hxi⟩ : ∃ x, xs[i]? = some x := ⟨_, List.getElem?_eq_getElem hlt⟩
      obtain ⟨gr, rc', er, hgr, hcell, -⟩ := HR.out.at' hxi
      cases er
      have HXi := Lib.hid hxi
      have hxs := HSx.out x (List.mem_of_getElem? hxi)
      have hji : (i : Int) < (xs.length : Int) := by omega
      have hj0 : (0 : Int) ≤ (i : Int) := by omega
      clear hxi hgr
      by_cases ht : t = 0
      · subst ht
        have hgl : gs.length = i := HGs.out.len
        have htb : ((0 : Int) == 0) = true := rfl
        obtain ⟨cs, hro, -, -⟩ := HGs.out.lx i x HXi.out
        obtain ⟨xa, xc, ex, _⟩ := bk_slice hro
        obtain ⟨xv, xn⟩ := x
        simp only at ex hxs
        subst ex
        change wr.cell? ⟨gr, i, none⟩ = some (.slice xa xn xc) at hcell
        have HRowW : Hid (∀ o, (wr.alloc o).ownsRow 0 47 1 (.slice ga gs.length gc) gs.length (gs.map (·.1))) := Lib.hid (fun o => ownsRow_chg HG.out.row ((Chg.refl (fun _ => False) wr).alloc o) (fun _ _ f => f))
        have HLtW : Hid (∀ (o : Obj) g r, own1 g = some r → g < (wr.alloc o).heap.size) := Lib.hid (fun o g r e => by have := HB.out.lt g r e; have e2 : (wr.alloc o).heap.size = wr.heap.size + 1 := Array.size_push _; omega)
        have hbnd : gs.length ≤ 1000000 := by omega
        have HGl := Lib.hid hgl
        have k1a : ∀ o, (wr.alloc o).cell? ⟨b, 2, none⟩ = some (.slice (some ⟨gr, 0, none⟩) xs.length rc) := fun o => bk_cell ((Chg.refl (fun _ => False) wr).alloc o) k1 (fun f => f)
        have k2a : ∀ o, (wr.alloc o).cell? ⟨b, 4, none⟩ = some (.slice ga gs.length gc) := fun o => bk_cell ((Chg.refl (fun _ => False) wr).alloc o) k2 (fun f => f)
        have hca : ∀ o, (wr.alloc o).cell? ⟨gr, i, none⟩ = some (.slice xa xn xc) := fun o => bk_cell ((Chg.refl (fun _ => False) wr).alloc o) hcell (fun f => f)
        clear hro hgl
        go_wp2_with fail
        go_region_law
          ((refine step_grow (P := Tryz.prog) (w := (wr.alloc (.cells #[.slice xa xn xc] 47)).drew) (by rfl) _ _ 25 (by rfl) 47 i2 (.slice none 0 0) 1 24 Tryz.underlying25 hi2 hy0 hy1 hy2 rfl (by omega) own1 (fun g r e => HLtW.out _ g r e) (1, 4) (fun r => r = (1, 4)) rfl (.slice ga gs.length gc) gs.length _ (by rfl) (HRowW.out _) HG.out.mine 1 1 ⟨wr.heap.size, 0, none⟩ [.slice xa xn xc] (by rfl) rfl (World.news_of_block (cs := #[.slice xa xn xc]) (t := 47) (fr := (0, 0)) (bk_new wr _)) (by simp [Value.oneCell']) (by omega) (by unfold maxLen; omega) (by omega) ?_
            intro g7 c7 w7 own7 hr7 hg7 hst7 hold7
            have HSt7 : Hid (OStep (fun r => r = (1, 4)) wr own1 w7 own7) := Lib.hid ((OStep.of0 (R := fun r => r = (1, 4)) HB.out.lt (((Chg.refl _ wr).alloc _).drew)).trans hst7)
            have HR7 := Lib.hid hr7
            have HG7 := Lib.hid hg7
            have HB7 := Lib.hid (HB.out.step HSt7.out (by decide))
            have q2 : w7.cell? ⟨b, 4, none⟩ = some (.slice ga gs.length gc) := (by rw [HB7.out.cell 4 (by omega), setF_same])
            have qf : w7.frozen? ⟨b, 4, none⟩ = false := HB7.out.frozen 4
            clear hr7 hg7 hst7 hold7))
        all_goals
          obtain ⟨wm, hwm⟩ : ∃ wm, wm = w7.setCell ⟨b, 4, none⟩ (.slice (some ⟨g7, 0, none⟩) (gs.length + 1) c7) := ⟨_, rfl⟩
          rw [← hwm]
          have HStm : Hid (OStep (fun r => r = (1, 4) ∨ r = (0, 0)) wr own1 wm own7) := Lib.hid (by rw [hwm]; exact (HSt7.out.mono (fun r e => .inl e)).trans (OStep.set (R := fun r => r = (1, 4) ∨ r = (0, 0)) HB7.out.lt HB7.out.role (.inr rfl) _))
          have HBm : Hid (BookF 39 wm own7 b (setF F 4 (.slice (some ⟨g7, 0, none⟩) (gs.length + 1) c7))) := Lib.hid (by rw [hwm, ← setF_setF F 4 (.slice ga gs.length gc)]; exact HB7.out.set 4 _ (by omega))
          have HRm := Lib.hid (HR.out.step HStm.out (by decide))
          have HGm : Hid (RowK wm own7 47 4 (.slice (some ⟨g7, 0, none⟩) (gs.length + 1) c7) (gs ++ [(.slice xa xn xc, xn)])) := Lib.hid ⟨by
            rw [hwm, List.length_append, List.map_append]
            exact ownsRow_chg HR7.out (Chg.setCell (S := fun x => x = b) (Chg.refl _ w7) (p := ⟨b, 4, none⟩) (.inl rfl) _) (fun x e1 e2 => by
              simp only [Value.ownBlock, Option.some.injEq] at e1
              have h := HG7.out
              rw [e1, e2, HB7.out.role] at h; simp at h), fun x e1 => by simp only [Value.ownBlock, Option.some.injEq] at e1; rw [← e1]; exact HG7.out⟩
          have HGsm : Hid (bytesGrowing wm own7 c id0 0 i (i + 1) xs (gs ++ [(.slice xa xn xc, xn)])) := Lib.hid ((HGs.out.push HXi.out).step HStm.out (fun k e => by simp at e))
          have hglm : (gs ++ [((.slice xa xn xc : Value), xn)]).length = gs.length + 1 := by simp
          rw [← hglm] at HBm HGm ⊢
          obtain ⟨gsm, hgsm⟩ : ∃ gsm, gsm = gs ++ [((.slice xa xn xc : Value), xn)] := ⟨_, rfl⟩
          rw [← hgsm] at HBm HGm HGsm ⊢
          have HLm : Hid (lenG 0 (i + 1) xs.length = i + 1) := Lib.hid rfl
          have HStm2 : Hid (OStep (fun r => r.1 = 2 ∨ r = (1, 4) ∨ r = (0, 0)) w0 own0 wm own7) := Lib.hid (HSt.out.trans (HStm.out.mono (fun r e => .inr e)))
          clear k1 k2 q2 qf hcell k1a k2a hca hwm hglm hgsm
          have k1 : wm.cell? ⟨b, 2, none⟩ = some (.slice (some ⟨gr, 0, none⟩) xs.length rc) := by rw [HBm.out.cell 2 (by omega), setF_other (by decide), HRv.out]
          have k2 : wm.cell? ⟨b, 4, none⟩ = some (.slice (some ⟨g7, 0, none⟩) gsm.length c7) := by rw [HBm.out.cell 4 (by omega), setF_same]
          have hgi : i < gsm.length := by have := HGsm.out.len; omega
          obtain ⟨y, hyi⟩ : ∃ y, gsm[i]? = some y := ⟨_, List.getElem?_eq_getElem hgi⟩
          obtain ⟨gr2, gc2, er2, hgr2, hcell2, hfz2⟩ := HGm.out.at' hyi
          cases er2
          have hyx := HGsm.out.each i _ y HXi.out hyi
          rw [if_neg (Nat.lt_irrefl i)] at hyx
          obtain ⟨cs2, hro2, hcs2, hmy⟩ := HGsm.out.lg i y hyi
          subst hcs2
          obtain ⟨ya, yc, ey, _⟩ := bk_slice hro2
          have HYi := Lib.hid hyi
          have HRo2 := Lib.hid hro2
          have HMy := Lib.hid hmy
          obtain ⟨yv, yn⟩ := y
          simp only at ey hyx
          subst ey
          change wm.cell? ⟨g7, i, none⟩ = some (.slice ya yn yc) at hcell2
          have hyn : yn ≤ 134217798 := by omega
          have hgi2 : (i : Int) < (gsm.length : Int) := by omega
          have HGr2 := Lib.hid hgr2
          have HYx := Lib.hid hyx
          have HMk : Hid (Calls Tryz.prog 108 #[.pointer (some ⟨b, 0, none⟩), .int .i64 (id0 + (i : Int) + 1), .int .i64 (yn : Int)] wm fun e w' => e = .returned (.int .u8 (bytesmark c (id0 + i + 1) yn)) ∧ w' = wm) := Lib.hid ((bytesmark_any _ own7 b _ HBm.out c (by rw [setF_other (by decide)]; exact HC.out) hcc (id0 + (i : Int) + 1) (yn : Int) (by omega) (by omega) (by omega) (by omega)).mono fun _ _ h => ⟨h.1, h.2.symm⟩)
          have HRowY : Hid (∀ o, (wm.alloc o).ownsRow 0 5 1 (.slice ya yn yc) yn (bytesmarks c (id0 + i + 1) yn)) := Lib.hid (fun o => ownsRow_chg HRo2.out ((Chg.refl (fun _ => False) wm).alloc o) (fun _ _ f => f))
          have HLtY : Hid (∀ (o : Obj) g r, own7 g = some r → g < (wm.alloc o).heap.size) := Lib.hid (fun o g r e => by have := HBm.out.lt g r e; have e2 : (wm.alloc o).heap.size = wm.heap.size + 1 := Array.size_push _; omega)
          have hii : i < gsm.length := hgi
          clear hro2 hmy hyi hgr2 hyx
          go_wp2_with fail
          refine HMk.out.mono ?_
          rintro e w' ⟨rfl, rfl⟩
          obtain ⟨mv, hmv⟩ : ∃ mv, mv = bytesmark c (id0 + (i : Int) + 1) (yn : Int) := ⟨_, rfl⟩
          rw [← hmv]
          have HMv := Lib.hid hmv
          have k2a : ∀ o, (w'.alloc o).cell? ⟨b, 4, none⟩ = some (.slice (some ⟨g7, 0, none⟩) gsm.length c7) := fun o => bk_cell ((Chg.refl (fun _ => False) w').alloc o) k2 (fun f => f)
          have hca : ∀ o, (w'.alloc o).cell? ⟨g7, i, none⟩ = some (.slice ya yn yc) := fun o => bk_cell ((Chg.refl (fun _ => False) w').alloc o) hcell2 (fun f => f)
          clear hmv
          go_wp2_with fail
          go_region_law
            ((refine step_grow (P := Tryz.prog) (w := (w'.alloc (.cells #[.int .u8 mv] 5)).drew) (by rfl) _ _ 47 (by rfl) 5 i1 (.int .u8 0) 1 1 Tryz.underlying47 hi1 hz0 hz1 hz2 rfl (by omega) own7 (fun g r e => HLtY.out _ g r e) (2, i) (fun r => r = (2, i)) rfl (.slice ya yn yc) yn (bytesmarks c (id0 + i + 1) yn) (by rfl) (HRowY.out _) HMy.out 1 1 ⟨w'.heap.size, 0, none⟩ [.int .u8 mv] (by rfl) rfl (World.news_of_block (cs := #[.int .u8 mv]) (t := 5) (fr := (0, 0)) (bk_new w' _)) (by simp [Value.oneCell']) (by omega) (by unfold maxLen; omega) (by omega) ?_
              intro g8 c8 w8 own8 hr8 hg8 hst8 hold8
              have HSt8 : Hid (OStep (fun r => r = (2, i)) w' own7 w8 own8) := Lib.hid ((OStep.of0 (R := fun r => r = (2, i)) HBm.out.lt (((Chg.refl _ w').alloc _).drew)).trans hst8)
              have HR8 := Lib.hid hr8
              have HG8 := Lib.hid hg8
              have HOld8 : Hid (∀ (n2 : Nat) (v2 : Value) (xs2 : List Value), w'.ownsRow 0 5 1 v2 n2 xs2 → Mine own7 (2, i) v2 → (∀ g, v2.ownBlock = some g → (Value.slice ya yn yc).ownBlock = some g → n2 ≤ yn) → w8.ownsRow 0 5 1 v2 n2 xs2) := Lib.hid (fun n2 v2 xs2 h1 h2 h3 => hold8 n2 v2 xs2 (ownsRow_chg h1 (((Chg.refl (fun _ => False) w').alloc _).drew) (fun _ _ f => f)) h2 h3)
              have HB8 := Lib.hid (HBm.out.step HSt8.out (fun e => by simp at e))
              have HGr8 := Lib.hid (HGm.out.step HSt8.out (fun e => by simp at e))
              have z2 : w8.cell? ⟨g7, i, none⟩ = some (.slice ya yn yc) := (by obtain ⟨_, _, e9, _, h9, _⟩ := HGr8.out.at' HYi.out; cases e9; exact h9)
              have z1 : w8.cell? ⟨b, 4, none⟩ = some (.slice (some ⟨g7, 0, none⟩) gsm.length c7) := (by rw [HB8.out.cell 4 (by omega), setF_same])
              have zf : w8.frozen? ⟨g7, i, none⟩ = false := (by obtain ⟨_, _, e9, _, _, h9⟩ := HGr8.out.at' HYi.out; cases e9; exact h9)
              clear hr8 hg8 hst8 hold8))
          all_goals
            go_wp2_with fail
            go_roundg (xs.length - (i + 1))
            case measure => have := Hg.out; omega
            case rel =>
              have hgr8 : own8 g7 = some (1, 4) := HSt8.out.keep _ _ HGr2.out
              have hs9 : OStep (fun r => r = (1, 4)) w8 own8 (w8.setCell ⟨g7, i, none⟩ (.slice (some ⟨g8, 0, none⟩) (yn + 1) c8)) own8 := OStep.set (R := fun r => r = (1, 4)) HB8.out.lt hgr8 rfl _
              have hgrown := HGsm.out.grown HXi.out HYi.out (g := g8) (cap := c8) (by have h := HR8.out; rw [HMv.out] at h; exact h) HG8.out HSt8.out HOld8.out
              exact ⟨i + 1, by omega, rfl, by go_num, by go_num, own8, _, _, HB8.out.step hs9 (by decide), (HRm.out.step HSt8.out (fun e => by simp at e)).step hs9 (by decide), by have h := RowK.setbytes (y := (.slice (some ⟨g8, 0, none⟩) (yn + 1) c8, yn + 1)) HGr8.out rfl hii; exact h, by rw [HLm.out]; exact hgrown.step hs9 (fun k e => by simp at e), (HStm2.out.trans (HSt8.out.mono (fun r e => .inl (by rw [e])))).trans (hs9.mono (fun r e => .inr (.inl e)))⟩
      · have htb : (((t : Nat) : Int) == 0) = false := by rw [beq_eq_false_iff_ne]; omega
        have HBm := HB
        have HRm := HR
        have HGm := HG
        have HLm : Hid (lenG t (i + 1) xs.length = xs.length) := Lib.hid (by unfold lenG; rw [if_neg ht])
        have HGsm : Hid (bytesGrowing wr own1 c id0 t i xs.length xs gs) := Lib.hid (by have h := HGs.out; unfold lenG at h; rw [if_neg ht] at h; exact h)
        have HStm2 := HSt
        have hgi : i < gs.length := by have := HGsm.out.len; omega
        clear ht hcell
        obtain ⟨y, hyi⟩ : ∃ y, gs[i]? = some y := ⟨_, List.getElem?_eq_getElem hgi⟩
        obtain ⟨gr2, gc2, er2, hgr2, hcell2, hfz2⟩ := HGm.out.at' hyi
        cases er2
        have hyx := HGsm.out.each i _ y HXi.out hyi
        rw [if_neg (Nat.lt_irrefl i)] at hyx
        obtain ⟨cs2, hro2, hcs2, hmy⟩ := HGsm.out.lg i y hyi
        subst hcs2
        obtain ⟨ya, yc, ey, _⟩ := bk_slice hro2
        have HYi := Lib.hid hyi
        have HRo2 := Lib.hid hro2
        have HMy := Lib.hid hmy
        obtain ⟨yv, yn⟩ := y
        simp only at ey hyx
        subst ey
        change wr.cell? ⟨gr2, i, none⟩ = some (.slice ya yn yc) at hcell2
        have hyn : yn ≤ 134217798 := by omega
        have hgi2 : (i : Int) < (gs.length : Int) := by omega
        have HGr2 := Lib.hid hgr2
        have HYx := Lib.hid hyx
        have HMk : Hid (Calls Tryz.prog 108 #[.pointer (some ⟨b, 0, none⟩), .int .i64 (id0 + (i : Int) + 1), .int .i64 (yn : Int)] wr fun e w' => e = .returned (.int .u8 (bytesmark c (id0 + i + 1) yn)) ∧ w' = wr) := Lib.hid ((bytesmark_any _ own1 b _ HBm.out c (by rw [setF_other (by decide)]; exact HC.out) hcc (id0 + (i : Int) + 1) (yn : Int) (by omega) (by omega) (by omega) (by omega)).mono fun _ _ h => ⟨h.1, h.2.symm⟩)
        have HRowY : Hid (∀ o, (wr.alloc o).ownsRow 0 5 1 (.slice ya yn yc) yn (bytesmarks c (id0 + i + 1) yn)) := Lib.hid (fun o => ownsRow_chg HRo2.out ((Chg.refl (fun _ => False) wr).alloc o) (fun _ _ f => f))
        have HLtY : Hid (∀ (o : Obj) g r, own1 g = some r → g < (wr.alloc o).heap.size) := Lib.hid (fun o g r e => by have := HBm.out.lt g r e; have e2 : (wr.alloc o).heap.size = wr.heap.size + 1 := Array.size_push _; omega)
        have hii : i < gs.length := hgi
        clear hro2 hmy hyi hgr2 hyx
        go_wp2_with fail
        refine HMk.out.mono ?_
        rintro e w' ⟨rfl, rfl⟩
        obtain ⟨mv, hmv⟩ : ∃ mv, mv = bytesmark c (id0 + (i : Int) + 1) (yn : Int) := ⟨_, rfl⟩
        rw [← hmv]
        have HMv := Lib.hid hmv
        have k2a : ∀ o, (w'.alloc o).cell? ⟨b, 4, none⟩ = some (.slice (some ⟨gr2, 0, none⟩) gs.length gc) := fun o => bk_cell ((Chg.refl (fun _ => False) w').alloc o) k2 (fun f => f)
        have hca : ∀ o, (w'.alloc o).cell? ⟨gr2, i, none⟩ = some (.slice ya yn yc) := fun o => bk_cell ((Chg.refl (fun _ => False) w').alloc o) hcell2 (fun f => f)
        clear hmv
        go_wp2_with fail
        go_region_law
          ((refine step_grow (P := Tryz.prog) (w := (w'.alloc (.cells #[.int .u8 mv] 5)).drew) (by rfl) _ _ 47 (by rfl) 5 i1 (.int .u8 0) 1 1 Tryz.underlying47 hi1 hz0 hz1 hz2 rfl (by omega) own1 (fun g r e => HLtY.out _ g r e) (2, i) (fun r => r = (2, i)) rfl (.slice ya yn yc) yn (bytesmarks c (id0 + i + 1) yn) (by rfl) (HRowY.out _) HMy.out 1 1 ⟨w'.heap.size, 0, none⟩ [.int .u8 mv] (by rfl) rfl (World.news_of_block (cs := #[.int .u8 mv]) (t := 5) (fr := (0, 0)) (bk_new w' _)) (by simp [Value.oneCell']) (by omega) (by unfold maxLen; omega) (by omega) ?_
            intro g8 c8 w8 own8 hr8 hg8 hst8 hold8
            have HSt8 : Hid (OStep (fun r => r = (2, i)) w' own1 w8 own8) := Lib.hid ((OStep.of0 (R := fun r => r = (2, i)) HBm.out.lt (((Chg.refl _ w').alloc _).drew)).trans hst8)
            have HR8 := Lib.hid hr8
            have HG8 := Lib.hid hg8
            have HOld8 : Hid (∀ (n2 : Nat) (v2 : Value) (xs2 : List Value), w'.ownsRow 0 5 1 v2 n2 xs2 → Mine own1 (2, i) v2 → (∀ g, v2.ownBlock = some g → (Value.slice ya yn yc).ownBlock = some g → n2 ≤ yn) → w8.ownsRow 0 5 1 v2 n2 xs2) := Lib.hid (fun n2 v2 xs2 h1 h2 h3 => hold8 n2 v2 xs2 (ownsRow_chg h1 (((Chg.refl (fun _ => False) w').alloc _).drew) (fun _ _ f => f)) h2 h3)
            have HB8 := Lib.hid (HBm.out.step HSt8.out (fun e => by simp at e))
            have HGr8 := Lib.hid (HGm.out.step HSt8.out (fun e => by simp at e))
            have z2 : w8.cell? ⟨gr2, i, none⟩ = some (.slice ya yn yc) := (by obtain ⟨_, _, e9, _, h9, _⟩ := HGr8.out.at' HYi.out; cases e9; exact h9)
            have z1 : w8.cell? ⟨b, 4, none⟩ = some (.slice (some ⟨gr2, 0, none⟩) gs.length gc) := (by rw [HB8.out.cell 4 (by omega), setF_same])
            have zf : w8.frozen? ⟨gr2, i, none⟩ = false := (by obtain ⟨_, _, e9, _, _, h9⟩ := HGr8.out.at' HYi.out; cases e9; exact h9)
            clear hr8 hg8 hst8 hold8))
        all_goals
          go_wp2_with fail
          go_roundg (xs.length - (i + 1))
          case measure => have := Hg.out; omega
          case rel =>
            have hgr8 : own8 gr2 = some (1, 4) := HSt8.out.keep _ _ HGr2.out
            have hs9 : OStep (fun r => r = (1, 4)) w8 own8 (w8.setCell ⟨gr2, i, none⟩ (.slice (some ⟨g8, 0, none⟩) (yn + 1) c8)) own8 := OStep.set (R := fun r => r = (1, 4)) HB8.out.lt hgr8 rfl _
            have hgrown := HGsm.out.grown HXi.out HYi.out (g := g8) (cap := c8) (by have h := HR8.out; rw [HMv.out] at h; exact h) HG8.out HSt8.out HOld8.out
            exact ⟨i + 1, by omega, rfl, by go_num, by go_num, own8, _, _, HB8.out.step hs9 (by decide), (HRm.out.step HSt8.out (fun e => by simp at e)).step hs9 (by decide), by have h := RowK.setbytes (y := (.slice (some ⟨g8, 0, none⟩) (yn + 1) c8, yn + 1)) HGr8.out rfl hii; exact h, by rw [HLm.out]; exact hgrown.step hs9 (fun k e => by simp at e), (HStm2.out.trans (HSt8.out.mono (fun r e => .inl (by rw [e])))).trans (hs9.mono (fun r e => .inr (.inl e)))⟩
    · have hji : ¬ (i : Int) < (xs.length : Int) := by omega
      have hin : i = xs.length := by omega
      subst hin
      have HFin : Hid (lenG t xs.length xs.length = xs.length) := Lib.hid (by unfold lenG; split <;> rfl)
      clear Hg
      go_wp2_with fail
      go_ret
      exact ⟨rfl, own1, _, gs, HB.out, HR.out, HG.out, (by have h := HGs.out; rw [HFin.out] at h; exact h), HSt.out⟩
end Go.Proofs.YtckioocahmbhkaaGreatDoor
