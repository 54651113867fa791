/- Walk: the book's lists of writes are written over. -/
import Derived.Test.YtckioocahmbhkaaGreatDoorBWw3
import Derived.StillTailTactics
import Derived.Deep.RegionLaw
namespace Go.Proofs.YtckioocahmbhkaaGreatDoor
open Go Go.RowKit Go.Maps

/-- Behind j elements of list i. -/
def writesWritten (w : World) (own : BOwn) (c id0 : Int) (xs : List (Value × Nat)) (i j : Nat) : Prop :=
  Lists w own 11 78 2 xs (fun k m cs => (k < i → writesRow c (id0 + k + 1) m cs) ∧ (k = i → writesRow c (id0 + i + 1) j cs))
theorem writesWritten.chg0 {w w' : World} {own : BOwn} {c id0 : Int} {xs : List (Value × Nat)} {i j : Nat} (h : writesWritten w own c id0 xs i j) (hc : Chg (fun _ => False) w w') : writesWritten w' own c id0 xs i j := fun k y hy => by
  obtain ⟨cs, h1, h2, h3⟩ := h k y hy
  exact ⟨cs, ownsRow_chg h1 hc (fun _ _ f => f), h2, h3⟩
theorem writesWritten.next {w : World} {own : BOwn} {c id0 : Int} {xs : List (Value × Nat)} {i : Nat} {x : Value × Nat} (h : writesWritten w own c id0 xs i x.2) (hx : xs[i]? = some x) : writesWritten w own c id0 xs (i + 1) 0 := by
  intro k y hy
  obtain ⟨cs, h1, ⟨h2, h3⟩, h4⟩ := h k y hy
  refine ⟨cs, h1, ⟨fun hk => ?_, fun _ q hq => by omega⟩, h4⟩
  rcases Nat.lt_or_ge k i with hki | hki
  · exact h2 hki
  · obtain rfl : k = i := by omega
    rw [hx] at hy; cases hy
    exact h3 rfl
theorem writesWritten.set {w : World} {own : BOwn} {c id0 : Int} {xs : List (Value × Nat)} {i j : Nat} {x : Value × Nat} {g cap : Nat} {p q : Value} (hlt : ∀ g r, own g = some r → g < w.heap.size) (h : writesWritten w own c id0 xs i j) (hx : xs[i]? = some x) (e : x.1 = .slice (some ⟨g, 0, none⟩) x.2 cap) (hj : j < x.2) (he : writesEl c (id0 + i + 1) j p q) :
    writesWritten ((w.setCell ⟨g, j * 2, none⟩ p).setCell ⟨g, j * 2 + 1, none⟩ q) own c id0 xs i (j + 1) ∧ OStep (fun r => r = (11, i)) w own ((w.setCell ⟨g, j * 2, none⟩ p).setCell ⟨g, j * 2 + 1, none⟩ q) own := by
  obtain ⟨cs, h1, ⟨h2, h3⟩, h4⟩ := h i x hx
  have hg : own g = some (11, i) := h4 g (by rw [e]; rfl)
  have hst1 : OStep (fun r => r = (11, i)) w own (w.setCell ⟨g, j * 2, none⟩ p) own := OStep.set (R := fun r => r = (11, i)) hlt hg rfl _
  have hst : OStep (fun r => r = (11, i)) w own ((w.setCell ⟨g, j * 2, none⟩ p).setCell ⟨g, j * 2 + 1, none⟩ q) own := hst1.trans (OStep.set (R := fun r => r = (11, i)) hst1.lt hg rfl _)
  refine ⟨fun k y hy => ?_, hst⟩
  by_cases hki : k = i
  · subst hki
    rw [hx] at hy; cases hy
    rw [e] at h1
    have hl := h1.1
    have h5 := ownsRow_setCell h1 (j * 2) p (by omega)
    have h6 := ownsRow_setCell h5 (j * 2 + 1) q (by rw [List.length_set]; omega)
    refine ⟨_, by rw [e]; exact h6, ⟨fun hk => by omega, fun _ r hr => ?_⟩, h4⟩
    by_cases hrj : r = j
    · subst hrj
      refine ⟨p, q, ?_, ?_, he⟩
      · rw [List.getElem?_set, if_neg (by omega), List.getElem?_set, if_pos rfl, if_pos (by omega)]
      · rw [List.getElem?_set, if_pos rfl, if_pos (by rw [List.length_set]; omega)]
    · obtain ⟨p', q', a1, a2, a3⟩ := h3 rfl r (by omega)
      refine ⟨p', q', ?_, ?_, a3⟩
      · rw [List.getElem?_set, if_neg (by omega), List.getElem?_set, if_neg (by omega)]; exact a1
      · rw [List.getElem?_set, if_neg (by omega), List.getElem?_set, if_neg (by omega)]; exact a2
  · obtain ⟨cs', k1, k2, k3⟩ := h k y hy
    exact ⟨cs', row_step k1 k3 (fun e => hki (by injection e)) hst, ⟨fun e => k2.1 e, fun e => (hki e).elim⟩, k3⟩

set_option maxRecDepth 100000 in
set_option maxHeartbeats 8000000 in
theorem writeswrite_any (w : World) (own : BOwn) (b : Nat) (F : Nat → Value) (hb : BookF 39 w own b F) (c : Int) (hc : F 1 = .int .i64 c) (hcc : 0 ≤ c ∧ c ≤ 1) (rv : Value) (xs : List (Value × Nat)) (hrv : F 29 = rv) (hx : RowK w own 54 29 rv xs)
    (id0 : Int) (h0 : 0 ≤ id0) (h1 : id0 + xs.length ≤ 1000000) (hX : Lists w own 11 78 2 xs (fun _ _ _ => True)) (hsx : ∀ x ∈ xs, x.2 ≤ 134217728) :
    Calls Tryz.prog 58 #[.pointer (some ⟨b, 0, none⟩), .int .i64 id0] w fun e w' => e = .returned (.int .i64 (id0 + xs.length)) ∧ OStep (fun r => r.1 = 11) w own w' own ∧ Lists w' own 11 78 2 xs (fun i n cs => writesRow c (id0 + i + 1) n cs) := by
  have HB := Lib.hid hb
  have HC := Lib.hid hc
  have k1 := hb.cell 29 (by omega)
  rw [hrv] at k1
  obtain ⟨ra, rc, rfl⟩ := hx.shape
  have HRv := Lib.hid hrv
  have HX := Lib.hid hx
  have HSx := Lib.hid hsx
  have HW0 : Hid (writesWritten w own c id0 xs 0 0) := Lib.hid (hX.mono (fun i x cs _ _ => ⟨fun h => by omega, fun _ q hq => by omega⟩))
  have HSt0 : Hid (OStep (fun r => r.1 = 11) w own w own) := Lib.hid (OStep.refl _ hb.lt)
  clear hb hc hrv hx hX hsx k1
  go_enter Tryz.func58, Tryz.ntmps58
  go_wp2_with fail
  go_loopg [1, 5, 6] xs.length (fun gm dv iv _ wr => ∃ (i : Nat), i ≤ xs.length ∧ gm = xs.length - i ∧ iv = .int .i64 i ∧ dv = .int .i64 (id0 + i) ∧ OStep (fun r => r.1 = 11) w own wr own ∧ writesWritten wr own c id0 xs i 0)
  case atStart => exact ⟨0, by omega, rfl, rfl, by simp, HSt0.out, HW0.out⟩
  case round =>
    obtain ⟨i, hi, hgm, rfl, rfl, hst, hwr⟩ := hrel
    have Hg := Lib.hid hgm
    have HSt := Lib.hid hst
    have HWr := Lib.hid hwr
    clear hgm hst hwr
    have HBr := Lib.hid (HB.out.step HSt.out (by decide))
    have k1 : wr.cell? ⟨b, 29, none⟩ = some (.slice ra xs.length rc) := by rw [HBr.out.cell 29 (by omega), HRv.out]
    by_cases hlt : i < xs.length
    · obtain ⟨x, hxi⟩ : ∃ x, xs[i]? = some x := ⟨_, List.getElem?_eq_getElem hlt⟩
      have HXr := HX.out.step HSt.out (by decide)
      obtain ⟨gr, rc', er, hgr, hcell, -⟩ := HXr.at' hxi
      cases er
      have hji : (i : Int) < (xs.length : Int) := by omega
      have hj0 : (0 : Int) ≤ (i : Int) := by omega
      obtain ⟨cs, hro, -, hmi⟩ := HWr.out i x hxi
      obtain ⟨xa, xc, ex, _, _, hxg⟩ := bk_slice hro
      have HXg := Lib.hid hxg
      have HXi := Lib.hid hxi
      have HMi := Lib.hid hmi
      have HGr := Lib.hid hgr
      have hxs := HSx.out x (List.mem_of_getElem? hxi)
      obtain ⟨xv, xn⟩ := x
      simp only at ex hxs
      subst ex
      change wr.cell? ⟨gr, i, none⟩ = some (.slice xa xn xc) at hcell
      clear hro hxi hxg hmi hgr HXr
      obtain ⟨wo, hwo⟩ : ∃ wo : World, wo = wr := ⟨_, rfl⟩
      subst hwo
      clear hcell
      go_wp2_with fail
      clear k1
      go_loopg [6] xn (fun gm jv wq => ∃ (j : Nat), j ≤ xn ∧ gm = xn - j ∧ jv = .int .i64 j ∧ OStep (fun r => r.1 = 11) w own wq own ∧ OStep (fun r => r.1 = 11) wo own wq own ∧ writesWritten wq own c id0 xs i j)
      case atStart => exact ⟨0, by omega, rfl, rfl, HSt.out, OStep.refl _ HBr.out.lt, HWr.out⟩
      case round =>
        obtain ⟨j, hj, hgm2, rfl, hst2, hst3, hwr2⟩ := hrel
        have Hg2 := Lib.hid hgm2
        have HSt2 := Lib.hid hst2
        have HSt3 := Lib.hid hst3
        have HWr2 := Lib.hid hwr2
        have HBq := Lib.hid (HB.out.step hst2 (by decide))
        have k1 : wr.cell? ⟨b, 29, none⟩ = some (.slice (some ⟨gr, 0, none⟩) xs.length rc) := by rw [HBq.out.cell 29 (by omega), HRv.out]
        have k2 : wr.cell? ⟨gr, i, none⟩ = some (.slice xa xn xc) := by
          obtain ⟨g2, c2, e2, -, h2, -⟩ := (HX.out.step HSt2.out (by decide)).at' HXi.out
          cases e2; exact h2
        clear hgm2 hst2 hst3 hwr2
        by_cases hjn : j < xn
        · obtain ⟨g, rfl⟩ := HXg.out (by omega)
          have hjj : (j : Int) < (xn : Int) := by omega
          have hjz : (0 : Int) ≤ (j : Int) := by omega
          obtain ⟨cs2, hro2, -, -⟩ := HWr2.out i _ HXi.out
          have hcl : ∀ o, o < xn * 2 → ∃ u, wr.cell? ⟨g, o, none⟩ = some u := fun o ho => by
            have h := hro2.cellAt o ho
            have hl := hro2.1
            rw [h]
            exact ⟨_, List.getElem?_eq_getElem (by simp only at hl; omega)⟩
          obtain ⟨u0, hcl0⟩ := hcl (j * 2) (by omega)
          obtain ⟨u1, hcl1⟩ := hcl (j * 2 + 1) (by omega)
          have HRo2 := Lib.hid hro2
          have HNe : Hid (b ≠ g ∧ gr ≠ g) := Lib.hid ⟨fun e => by have h := HBq.out.role; rw [e, HMi.out g rfl] at h; simp at h, fun e => by have h := HGr.out; rw [e, HMi.out g rfl] at h; simp at h⟩
          have HMk : Hid (∀ wx, Chg (fun _ => False) wr wx → Calls Tryz.prog 117 #[.pointer (some ⟨b, 0, none⟩), .int .i64 (id0 + (i : Int) + 1), .int .i64 (j : Int)] wx fun e w' => ∃ n, e = .returned (.agg #[.int .i64 n, .slice none 0 0]) ∧ writesEl c (id0 + (i : Int) + 1) j (.int .i64 n) (.slice none 0 0) ∧ Chg (fun _ => False) wx w') := Lib.hid (fun wx hx =>
            (writesmark_any wx own b F (HBq.out.step (OStep.of0 (R := fun _ => False) HBq.out.lt hx) (fun f => f)) c HC.out hcc (id0 + (i : Int) + 1) (j : Int) (by omega) (by omega) (by omega) (by omega)).mono (fun _ _ h => ⟨_, h.1, ⟨rfl, rfl⟩, h.2⟩))
          clear hro2 hcl
          go_wp2_with fail
          go_region_held3 (fun w' => w'.cell? ⟨b, 29, none⟩ = some (.slice (some ⟨gr, 0, none⟩) xs.length rc) ∧ w'.cell? ⟨gr, i, none⟩ = some (.slice (some ⟨g, 0, none⟩) xn xc))
            (first
              | exact kx6
              | exact kx5
              | go_keep)
            ((go_simp; go_at_call 117; refine (HMk.out _ (by first | exact (Chg.refl _ wr).drew | exact (Chg.refl _ wr).drewN _)).mono ?_
              rintro e w5 ⟨n5, rfl, hel5, hc5⟩
              have C5 : Hid (Chg (fun _ => False) wr w5) := Lib.hid (Chg.trans (by first | exact (Chg.refl _ wr).drew | exact (Chg.refl _ wr).drewN _) hc5 (fun _ f => f.elim))
              have HEl5 := Lib.hid hel5
              have e0 := bk_cell C5.out hcl0 (fun f => f)
              have e1 := bk_cell C5.out hcl1 (fun f => f)
              have y1 := bk_cell C5.out k1 (fun f => f)
              have y2 := bk_cell C5.out k2 (fun f => f)
              have ef : ∀ o, w5.frozen? ⟨g, o, none⟩ = false := fun o => (ownsRow_chg HRo2.out C5.out (fun _ _ f => f)).frozenAt o
              have kx5 := And.intro y1 y2
              have kx6 : ((w5.setCell ⟨g, j * 2, none⟩ (.int .i64 n5)).setCell ⟨g, j * 2 + 1, none⟩ (.slice none 0 0)).cell? ⟨b, 29, none⟩ = some (.slice (some ⟨gr, 0, none⟩) xs.length rc) ∧ ((w5.setCell ⟨g, j * 2, none⟩ (.int .i64 n5)).setCell ⟨g, j * 2 + 1, none⟩ (.slice none 0 0)).cell? ⟨gr, i, none⟩ = some (.slice (some ⟨g, 0, none⟩) xn xc) := ⟨((World.cell?_setCell_other _ _ _ _ (fun e => HNe.out.1 (congrArg Addr.block e).symm)).trans (World.cell?_setCell_other _ _ _ _ (fun e => HNe.out.1 (congrArg Addr.block e).symm))).trans y1, ((World.cell?_setCell_other _ _ _ _ (fun e => HNe.out.2 (congrArg Addr.block e).symm)).trans (World.cell?_setCell_other _ _ _ _ (fun e => HNe.out.2 (congrArg Addr.block e).symm))).trans y2⟩
              clear hel5 hc5))
          all_goals
            have HSet := Lib.hid ((HWr2.out.chg0 C5.out).set (OStep.of0 (R := fun _ => False) HBq.out.lt C5.out).lt HXi.out rfl hjn HEl5.out)
            have HS5 := OStep.of0 (R := fun r => r.1 = 11) HBq.out.lt C5.out
            have HSet2 := HS5.trans (HSet.out.2.mono (R' := fun r => r.1 = 11) (fun r e => by rw [e]))
            have HSet3 := Lib.hid (HSt2.out.trans HSet2)
            have HSet4 := Lib.hid (HSt3.out.trans HSet2)
            clear HS5 HSet2 kx5 kx6
            go_wp2_with fail
            go_roundg (xn - (j + 1))
            case measure => have := Hg2.out; omega
            case rel => exact ⟨j + 1, by omega, rfl, by go_num, HSet3.out, HSet4.out, HSet.out.1⟩
        · have hjj : ¬ (j : Int) < (xn : Int) := by omega
          have hjn2 : j = xn := by omega
          subst hjn2
          have HNx := Lib.hid (HWr2.out.next HXi.out)
          clear Hg2
          go_wp2_with fail
          go_roundg (xs.length - (i + 1))
          case measure => have := Hg.out; omega
          case rel => exact ⟨i + 1, by omega, rfl, by go_num, by go_num, HSt2.out, HNx.out⟩
    · have hji : ¬ (i : Int) < (xs.length : Int) := by omega
      have hin : i = xs.length := by omega
      subst hin
      have HFin : Hid (Lists wr own 11 78 2 xs (fun i n cs => writesRow c (id0 + i + 1) n cs)) := Lib.hid (HWr.out.mono (fun k x cs hk h => h.1 (List.getElem?_eq_some_iff.1 hk).1))
      clear Hg
      go_wp2_with fail
      go_ret
      exact ⟨rfl, HSt.out, HFin.out⟩
end Go.Proofs.YtckioocahmbhkaaGreatDoor
