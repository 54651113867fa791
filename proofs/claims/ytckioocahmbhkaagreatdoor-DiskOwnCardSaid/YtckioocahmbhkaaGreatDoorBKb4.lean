/- Walk: the book's lists of bytes are written over. -/
import Derived.Test.YtckioocahmbhkaaGreatDoorBKb3
import Derived.StillTailTactics
import Derived.Deep.RegionLaw
namespace Go.Proofs.YtckioocahmbhkaaGreatDoor
open Go Go.RowKit Go.Maps

/-- Behind j elements of list i. -/
def bytesWritten (w : World) (own : BOwn) (c id0 : Int) (xs : List (Value × Nat)) (i j : Nat) : Prop :=
  Lists w own 2 5 1 xs (fun k m cs => (k < i → cs = bytesmarks c (id0 + k + 1) m) ∧ (k = i → ∀ q : Nat, q < j → cs[q]? = some (.int .u8 (bytesmark c (id0 + i + 1) q))))
theorem bytesWritten.next {w : World} {own : BOwn} {c id0 : Int} {xs : List (Value × Nat)} {i : Nat} {x : Value × Nat} (h : bytesWritten w own c id0 xs i x.2) (hx : xs[i]? = some x) : bytesWritten w own c id0 xs (i + 1) 0 := by
  intro k y hy
  obtain ⟨cs, h1, ⟨h2, h3⟩, h4⟩ := h k y hy
  refine ⟨cs, h1, ⟨fun hk => ?_, fun _ q hq => by omega⟩, h4⟩
  rcases Nat.lt_or_ge k i with hki | hki
  · exact h2 hki
  · obtain rfl : k = i := by omega
    rw [hx] at hy; cases hy
    exact bytesmarks_of (by have := h1.1; omega) (h3 rfl)
theorem bytesWritten.set {w : World} {own : BOwn} {c id0 : Int} {xs : List (Value × Nat)} {i j : Nat} {x : Value × Nat} {g cap : Nat} (hlt : ∀ g r, own g = some r → g < w.heap.size) (h : bytesWritten w own c id0 xs i j) (hx : xs[i]? = some x) (e : x.1 = .slice (some ⟨g, 0, none⟩) x.2 cap) (hj : j < x.2) :
    bytesWritten (w.setCell ⟨g, j, none⟩ (.int .u8 (bytesmark c (id0 + i + 1) j))) own c id0 xs i (j + 1) ∧ OStep (fun r => r = (2, i)) w own (w.setCell ⟨g, j, none⟩ (.int .u8 (bytesmark c (id0 + i + 1) j))) own := by
  obtain ⟨cs, h1, ⟨h2, h3⟩, h4⟩ := h i x hx
  have hg : own g = some (2, i) := h4 g (by rw [e]; rfl)
  have hst : OStep (fun r => r = (2, i)) w own (w.setCell ⟨g, j, none⟩ (.int .u8 (bytesmark c (id0 + i + 1) j))) own := OStep.set (R := fun r => r = (2, i)) hlt hg rfl _
  refine ⟨fun k y hy => ?_, hst⟩
  by_cases hki : k = i
  · subst hki
    rw [hx] at hy; cases hy
    rw [e] at h1
    have hl := h1.1
    have h5 := ownsRow_setCell h1 j (.int .u8 (bytesmark c (id0 + k + 1) j)) (by omega)
    refine ⟨_, by rw [e]; exact h5, ⟨fun hk => by omega, fun _ q hq => ?_⟩, h4⟩
    rw [List.getElem?_set]
    by_cases hqj : j = q
    · subst hqj; rw [if_pos rfl, if_pos (by omega)]
    · rw [if_neg hqj]; exact h3 rfl q (by omega)
  · obtain ⟨cs', k1, k2, k3⟩ := h k y hy
    exact ⟨cs', row_step k1 k3 (fun e => hki (by injection e)) hst, ⟨k2.1, fun e => (hki e).elim⟩, k3⟩

set_option maxRecDepth 100000 in
set_option maxHeartbeats 8000000 in
theorem byteswrite_any (w : World) (own : BOwn) (b : Nat) (F : Nat → Value) (hb : BookF 39 w own b F) (c : Int) (hc : F 1 = .int .i64 c) (hcc : 0 ≤ c ∧ c ≤ 1) (rv : Value) (xs : List (Value × Nat)) (hrv : F 2 = rv) (hx : RowK w own 47 2 rv xs)
    (id0 : Int) (h0 : 0 ≤ id0) (h1 : id0 + xs.length ≤ 1000000) (hX : Lists w own 2 5 1 xs (fun _ _ _ => True)) (hsx : ∀ x ∈ xs, x.2 ≤ 134217728) :
    Calls Tryz.prog 49 #[.pointer (some ⟨b, 0, none⟩), .int .i64 id0] w fun e w' => e = .returned (.int .i64 (id0 + xs.length)) ∧ OStep (fun r => r.1 = 2) w own w' own ∧ Lists w' own 2 5 1 xs (fun i n cs => cs = bytesmarks c (id0 + i + 1) n) := by
  have HB := Lib.hid hb
  have HC := Lib.hid hc
  have k1 := hb.cell 2 (by omega)
  rw [hrv] at k1
  obtain ⟨ra, rc, rfl⟩ := hx.shape
  have HRv := Lib.hid hrv
  have HX := Lib.hid hx
  have HSx := Lib.hid hsx
  have HW0 : Hid (bytesWritten w own c id0 xs 0 0) := Lib.hid (hX.mono (fun i x cs _ _ => ⟨fun h => by omega, fun _ q hq => by omega⟩))
  have HSt0 : Hid (OStep (fun r => r.1 = 2) w own w own) := Lib.hid (OStep.refl _ hb.lt)
  clear hb hc hrv hx hX hsx k1
  go_enter Tryz.func49, Tryz.ntmps49
  go_wp2_with fail
  go_loopg [1, 5, 6] xs.length (fun gm dv iv _ wr => ∃ (i : Nat), i ≤ xs.length ∧ gm = xs.length - i ∧ iv = .int .i64 i ∧ dv = .int .i64 (id0 + i) ∧ OStep (fun r => r.1 = 2) w own wr own ∧ bytesWritten wr own c id0 xs i 0)
  case atStart => exact ⟨0, by omega, rfl, rfl, by simp, HSt0.out, HW0.out⟩
  case round =>
    obtain ⟨i, hi, hgm, rfl, rfl, hst, hwr⟩ := hrel
    have Hg := Lib.hid hgm
    have HSt := Lib.hid hst
    have HWr := Lib.hid hwr
    clear hgm hst hwr
    have HBr := Lib.hid (HB.out.step HSt.out (by decide))
    have k1 : wr.cell? ⟨b, 2, none⟩ = some (.slice ra xs.length rc) := by rw [HBr.out.cell 2 (by omega), HRv.out]
    by_cases hlt : i < xs.length
    · obtain ⟨x, hxi⟩ : ∃ x, xs[i]? = some x := ⟨_, List.getElem?_eq_getElem hlt⟩
      have HXr := HX.out.step HSt.out (by decide)
      obtain ⟨gr, rc', er, hgr, hcell, -⟩ := HXr.at' hxi
      cases er
      have hji : (i : Int) < (xs.length : Int) := by omega
      have hj0 : (0 : Int) ≤ (i : Int) := by omega
      obtain ⟨cs, hro, -, hmi⟩ := HWr.out i x hxi
      obtain ⟨xa, xc, ex, _, _, hxg⟩ := bk_slice hro
      have HXg := Lib.hid hxg
      have HXi := Lib.hid hxi
      have HMi := Lib.hid hmi
      have HGr := Lib.hid hgr
      have hxs := HSx.out x (List.mem_of_getElem? hxi)
      obtain ⟨xv, xn⟩ := x
      simp only at ex hxs
      subst ex
      change wr.cell? ⟨gr, i, none⟩ = some (.slice xa xn xc) at hcell
      clear hro hxi hxg hmi hgr HXr
      obtain ⟨wo, hwo⟩ : ∃ wo : World, wo = wr := ⟨_, rfl⟩
      subst hwo
      clear hcell
      go_wp2_with fail
      clear k1
      go_loopg [6] xn (fun gm jv wq => ∃ (j : Nat), j ≤ xn ∧ gm = xn - j ∧ jv = .int .i64 j ∧ OStep (fun r => r.1 = 2) w own wq own ∧ OStep (fun r => r.1 = 2) wo own wq own ∧ bytesWritten wq own c id0 xs i j)
      case atStart => exact ⟨0, by omega, rfl, rfl, HSt.out, OStep.refl _ HBr.out.lt, HWr.out⟩
      case round =>
        obtain ⟨j, hj, hgm2, rfl, hst2, hst3, hwr2⟩ := hrel
        have Hg2 := Lib.hid hgm2
        have HSt2 := Lib.hid hst2
        have HSt3 := Lib.hid hst3
        have HWr2 := Lib.hid hwr2
        have HBq := Lib.hid (HB.out.step hst2 (by decide))
        have k1 : wr.cell? ⟨b, 2, none⟩ = some (.slice (some ⟨gr, 0, none⟩) xs.length rc) := by rw [HBq.out.cell 2 (by omega), HRv.out]
        have k2 : wr.cell? ⟨gr, i, none⟩ = some (.slice xa xn xc) := by
          obtain ⟨g2, c2, e2, -, h2, -⟩ := (HX.out.step HSt2.out (by decide)).at' HXi.out
          cases e2; exact h2
        clear hgm2 hst2 hst3 hwr2
        by_cases hjn : j < xn
        · obtain ⟨g, rfl⟩ := HXg.out (by omega)
          have hjj : (j : Int) < (xn : Int) := by omega
          have hjz : (0 : Int) ≤ (j : Int) := by omega
          obtain ⟨cs2, hro2, -, -⟩ := HWr2.out i _ HXi.out
          have hcl : ∃ u, wr.cell? ⟨g, j, none⟩ = some u := by
            have h := hro2.cellAt j (by show j < xn * 1; omega)
            have hl := hro2.1
            rw [h]
            exact ⟨_, List.getElem?_eq_getElem (by simp only at hl; omega)⟩
          obtain ⟨u, hcl⟩ := hcl
          have hfz : wr.frozen? ⟨g, j, none⟩ = false := hro2.frozenAt j
          have HSet := Lib.hid (HWr2.out.set HBq.out.lt HXi.out rfl hjn)
          have HSet2 : Hid (OStep (fun r => r.1 = 2) w own (wr.setCell ⟨g, j, none⟩ (.int .u8 (bytesmark c (id0 + i + 1) j))) own ∧ OStep (fun r => r.1 = 2) wo own (wr.setCell ⟨g, j, none⟩ (.int .u8 (bytesmark c (id0 + i + 1) j))) own) := Lib.hid ⟨HSt2.out.trans (HSet.out.2.mono (fun r e => by rw [e])), HSt3.out.trans (HSet.out.2.mono (fun r e => by rw [e]))⟩
          have HKeep : Hid (∀ nq : Nat, ((wr.drewN nq).setCell ⟨g, j, none⟩ (.int .u8 (bytesmark c (id0 + i + 1) j))).cell? ⟨b, 2, none⟩ = some (.slice (some ⟨gr, 0, none⟩) xs.length rc) ∧ ((wr.drewN nq).setCell ⟨g, j, none⟩ (.int .u8 (bytesmark c (id0 + i + 1) j))).cell? ⟨gr, i, none⟩ = some (.slice (some ⟨g, 0, none⟩) xn xc)) := Lib.hid (fun nq => by
            have hgo : own g = some (2, i) := HMi.out g rfl
            have h1 : b ≠ g := fun e => by have h := HBq.out.role; rw [e, hgo] at h; simp at h
            have h2 : gr ≠ g := fun e => by have h := HGr.out; rw [e, hgo] at h; simp at h
            exact ⟨(World.cell?_setCell_other _ _ _ _ (fun e => h1 (congrArg Addr.block e).symm)).trans k1, (World.cell?_setCell_other _ _ _ _ (fun e => h2 (congrArg Addr.block e).symm)).trans k2⟩)
          have HMk : Hid (∀ nq, Calls Tryz.prog 108 #[.pointer (some ⟨b, 0, none⟩), .int .i64 (id0 + (i : Int) + 1), .int .i64 (j : Int)] (wr.drewN nq) fun e w' => e = .returned (.int .u8 (bytesmark c (id0 + i + 1) j)) ∧ w' = wr.drewN nq) := Lib.hid (fun nq => by
            have hbd : BookF 39 (wr.drewN nq) own b F := HBq.out.step (OStep.of0 (R := fun _ => False) HBq.out.lt ((Chg.refl _ wr).drewN nq)) (fun f => f)
            exact (bytesmark_any _ own b F hbd c HC.out hcc (id0 + (i : Int) + 1) (j : Int) (by omega) (by omega) (by omega) (by omega)).mono fun _ _ h => ⟨h.1, h.2.symm⟩)
          clear hro2
          go_wp2_with fail
          go_region_held3 (fun w' => w'.cell? ⟨b, 2, none⟩ = some (.slice (some ⟨gr, 0, none⟩) xs.length rc) ∧ w'.cell? ⟨gr, i, none⟩ = some (.slice (some ⟨g, 0, none⟩) xn xc))
            (first
              | exact HKeep.out _
              | go_keep)
            ((go_simp; go_at_call 108; refine (HMk.out _).mono ?_; rintro e w' ⟨rfl, rfl⟩))
          all_goals
            go_wp2_with fail
            go_roundg (xn - (j + 1))
            case measure => have := Hg2.out; omega
            case rel => exact ⟨j + 1, by omega, rfl, by go_num, HSet2.out.1.drew, HSet2.out.2.drew, HSet.out.1⟩
        · have hjj : ¬ (j : Int) < (xn : Int) := by omega
          have hjn2 : j = xn := by omega
          subst hjn2
          have HNx := Lib.hid (HWr2.out.next HXi.out)
          clear Hg2
          go_wp2_with fail
          go_roundg (xs.length - (i + 1))
          case measure => have := Hg.out; omega
          case rel => exact ⟨i + 1, by omega, rfl, by go_num, by go_num, HSt2.out, HNx.out⟩
    · have hji : ¬ (i : Int) < (xs.length : Int) := by omega
      have hin : i = xs.length := by omega
      subst hin
      have HFin : Hid (Lists wr own 2 5 1 xs (fun i n cs => cs = bytesmarks c (id0 + i + 1) n)) := Lib.hid (HWr.out.mono (fun k x cs hk h => h.1 (List.getElem?_eq_some_iff.1 hk).1))
      clear Hg
      go_wp2_with fail
      go_ret
      exact ⟨rfl, HSt.out, HFin.out⟩
end Go.Proofs.YtckioocahmbhkaaGreatDoor
