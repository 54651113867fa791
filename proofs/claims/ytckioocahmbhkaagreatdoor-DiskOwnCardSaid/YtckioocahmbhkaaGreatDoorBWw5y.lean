/- Walk: the book's lists of writes are grown: in the first turn a list is put beside the elder ones. -/
import Derived.Test.YtckioocahmbhkaaGreatDoorBWw5
import Derived.Deep.CutBlock
import Derived.StillTailTactics
namespace Go.Proofs.YtckioocahmbhkaaGreatDoor
open Go Go.RowKit Go.Maps

def regIn (k : Nat) : Code → Option Code
  | .region n o d => if n = k then some (.region n o d) else none
  | .block _ c => regIn k c
  | .seq a b => match regIn k a with
    | some c => some c
    | none => regIn k b
  | .cond _ a b => match regIn k a with
    | some c => some c
    | none => regIn k b
  | .loop c => regIn k c
  | .scope c => regIn k c
  | _ => none
noncomputable def reg (k : Nat) (f : Func) : Code := ((f.body.bind (regIn k)).getD .skip)

set_option maxRecDepth 100000 in
set_option maxHeartbeats 8000000 in
theorem writespush {Q0 : Exit → Act → World → Prop} {s1 s2 s3 s4 s5 s6 s8 s9 s10 s11 s12 s13 s14 s15 s16 s17 s18 s19 s20 s21 s22 s23 s24 s25 s26 s27 s28 s29 s30 s31 s32 s33 s34 s35 s36 s37 s38 s39 s40 s41 s42 s43 s44 s45 s46 s47 s48 s49 s50 s51 s52 s53 s54 s55 s56 s57 s58 s59 s60 s61 s62 s63 s64 s65 : Value} {w0 : World} {own0 : BOwn} {b : Nat} {F : Nat → Value} {c id0 : Int} {rv : Value} {xs : List (Value × Nat)} {i : Nat} (hrv : F 29 = rv) {w : World} (hS : writesGrewS w0 own0 b F c id0 0 i i rv xs w) (hi : i < xs.length) (hl : xs.length ≤ 1000000)
    (hexit : ∀ ⦃u22 u23 u24 u25 u26 u27 u28 u29 u30 u31 u32 u33 u34 u35 u36 u37 : Value⦄ (w' : World), (writesGrewS w0 own0 b F c id0 0 i (i + 1) rv xs w') → Q0 .normal ⟨List.toArray (.pointer (some ⟨b, 0, none⟩) :: s1 :: s2 :: s3 :: s4 :: s5 :: s6 :: .int .i64 i :: s8 :: s9 :: s10 :: s11 :: s12 :: s13 :: s14 :: s15 :: s16 :: s17 :: s18 :: s19 :: s20 :: s21 :: u22 :: u23 :: u24 :: u25 :: u26 :: u27 :: u28 :: u29 :: u30 :: u31 :: u32 :: u33 :: u34 :: u35 :: u36 :: u37 :: s38 :: s39 :: s40 :: s41 :: s42 :: s43 :: s44 :: s45 :: s46 :: s47 :: s48 :: s49 :: s50 :: s51 :: s52 :: s53 :: s54 :: s55 :: s56 :: s57 :: s58 :: s59 :: s60 :: s61 :: s62 :: s63 :: s64 :: s65 :: []), []⟩ w') :
    Code.wp Tryz.prog (reg 6 Tryz.f84) Q0 ⟨List.toArray (.pointer (some ⟨b, 0, none⟩) :: s1 :: s2 :: s3 :: s4 :: s5 :: s6 :: .int .i64 i :: s8 :: s9 :: s10 :: s11 :: s12 :: s13 :: s14 :: s15 :: s16 :: s17 :: s18 :: s19 :: s20 :: s21 :: s22 :: s23 :: s24 :: s25 :: s26 :: s27 :: s28 :: s29 :: s30 :: s31 :: s32 :: s33 :: s34 :: s35 :: s36 :: s37 :: s38 :: s39 :: s40 :: s41 :: s42 :: s43 :: s44 :: s45 :: s46 :: s47 :: s48 :: s49 :: s50 :: s51 :: s52 :: s53 :: s54 :: s55 :: s56 :: s57 :: s58 :: s59 :: s60 :: s61 :: s62 :: s63 :: s64 :: s65 :: []), []⟩ w := by
  have HX := Lib.hid hexit
  obtain ⟨own1, gv, gs, hb, hr, hg, hgs, hst⟩ := hS
  have HB := Lib.hid hb
  have HR := Lib.hid hr
  have HG := Lib.hid hg
  have HGs := Lib.hid hgs
  have HSt := Lib.hid hst
  have HRv := Lib.hid hrv
  obtain ⟨ga, gc, rfl⟩ := hg.shape
  obtain ⟨i2, hi2, hy0, hy1, hy2⟩ := info_parts writesinfol
  obtain ⟨x, hxi⟩ : ∃ x, xs[i]? = some x := ⟨_, List.getElem?_eq_getElem hi⟩
  obtain ⟨gr, rc, er, hgr, hcell, -⟩ := HR.out.at' hxi
  subst er
  have k1 : w.cell? ⟨b, 29, none⟩ = some (.slice (some ⟨gr, 0, none⟩) xs.length rc) := by rw [hb.cell 29 (by omega), setF_other (by decide), HRv.out]
  have k2 : w.cell? ⟨b, 31, none⟩ = some (.slice ga gs.length gc) := by rw [hb.cell 31 (by omega), setF_same]
  have HXi := Lib.hid hxi
  have hji : (i : Int) < (xs.length : Int) := by omega
  have hj0 : (0 : Int) ≤ (i : Int) := by omega
  have hgl : gs.length = i := HGs.out.len
  obtain ⟨cs, hro, -, -⟩ := HGs.out.lx i x HXi.out
  obtain ⟨xa, xc, ex, _⟩ := bk_slice hro
  obtain ⟨xv, xn⟩ := x
  simp only at ex
  subst ex
  change w.cell? ⟨gr, i, none⟩ = some (.slice xa xn xc) at hcell
  have HRowW : Hid (∀ o, (w.alloc o).ownsRow 0 54 1 (.slice ga gs.length gc) gs.length (gs.map (·.1))) := Lib.hid (fun o => ownsRow_chg HG.out.row ((Chg.refl (fun _ => False) w).alloc o) (fun _ _ f => f))
  have HLtW : Hid (∀ (o : Obj) g r, own1 g = some r → g < (w.alloc o).heap.size) := Lib.hid (fun o g r e => by have := HB.out.lt g r e; have e2 : (w.alloc o).heap.size = w.heap.size + 1 := Array.size_push _; omega)
  have hbnd : gs.length ≤ 1000000 := by omega
  have k1a : ∀ o, (w.alloc o).cell? ⟨b, 29, none⟩ = some (.slice (some ⟨gr, 0, none⟩) xs.length rc) := fun o => bk_cell ((Chg.refl (fun _ => False) w).alloc o) k1 (fun f => f)
  have k2a : ∀ o, (w.alloc o).cell? ⟨b, 31, none⟩ = some (.slice ga gs.length gc) := fun o => bk_cell ((Chg.refl (fun _ => False) w).alloc o) k2 (fun f => f)
  have hca : ∀ o, (w.alloc o).cell? ⟨gr, i, none⟩ = some (.slice xa xn xc) := fun o => bk_cell ((Chg.refl (fun _ => False) w).alloc o) hcell (fun f => f)
  clear hexit hb hr hg hgs hst hrv hxi hro hgl hgr hi hl
  conv => arg 2; whnf
  refine wp_region_noPanic ?_
  go_region_law
    ((refine step_grow (P := Tryz.prog) (w := (w.alloc (.cells #[.slice xa xn xc] 54)).drew) (by rfl) _ _ 34 (by rfl) 54 i2 (.slice none 0 0) 1 24 Tryz.underlying34 hi2 hy0 hy1 hy2 rfl (by omega) own1 (fun g r e => HLtW.out _ g r e) (1, 31) (fun r => r = (1, 31)) rfl (.slice ga gs.length gc) gs.length _ (by rfl) (HRowW.out _) HG.out.mine 1 1 ⟨w.heap.size, 0, none⟩ [.slice xa xn xc] (by rfl) rfl (World.news_of_block (cs := #[.slice xa xn xc]) (t := 54) (fr := (0, 0)) (bk_new w _)) (by simp [Value.oneCell']) (by omega) (by unfold maxLen; omega) (by omega) ?_
      intro g7 c7 w7 own7 hr7 hg7 hst7 hold7
      have HSt7 : Hid (OStep (fun r => r = (1, 31)) w own1 w7 own7) := Lib.hid ((OStep.of0 (R := fun r => r = (1, 31)) HB.out.lt (((Chg.refl _ w).alloc _).drew)).trans hst7)
      have HR7 := Lib.hid hr7
      have HG7 := Lib.hid hg7
      have HB7 := Lib.hid (HB.out.step HSt7.out (by decide))
      have q2 : w7.cell? ⟨b, 31, none⟩ = some (.slice ga gs.length gc) := (by rw [HB7.out.cell 31 (by omega), setF_same])
      have qf : w7.frozen? ⟨b, 31, none⟩ = false := HB7.out.frozen 31
      clear hr7 hg7 hst7 hold7))
  all_goals
    refine NoPanic.normal ?_
    obtain ⟨wm, hwm⟩ : ∃ wm, wm = w7.setCell ⟨b, 31, none⟩ (.slice (some ⟨g7, 0, none⟩) (gs.length + 1) c7) := ⟨_, rfl⟩
    have HStm : OStep (fun r => r = (1, 31) ∨ r = (0, 0)) w own1 wm own7 := by rw [hwm]; exact (HSt7.out.mono (fun r e => .inl e)).trans (OStep.set (R := fun r => r = (1, 31) ∨ r = (0, 0)) HB7.out.lt HB7.out.role (.inr rfl) _)
    have HBm : BookF 39 wm own7 b (setF F 31 (.slice (some ⟨g7, 0, none⟩) (gs.length + 1) c7)) := by rw [hwm, ← setF_setF F 31 (.slice ga gs.length gc)]; exact HB7.out.set 31 _ (by omega)
    have HGm : RowK wm own7 54 31 (.slice (some ⟨g7, 0, none⟩) (gs.length + 1) c7) (gs ++ [(.slice xa xn xc, xn)]) := ⟨by
      rw [hwm, List.length_append, List.map_append]
      exact ownsRow_chg HR7.out (Chg.setCell (S := fun x => x = b) (Chg.refl _ w7) (p := ⟨b, 31, none⟩) (.inl rfl) _) (fun x e1 e2 => by
        simp only [Value.ownBlock, Option.some.injEq] at e1
        have h := HG7.out
        rw [e1, e2, HB7.out.role] at h; simp at h), fun x e1 => by simp only [Value.ownBlock, Option.some.injEq] at e1; rw [← e1]; exact HG7.out⟩
    exact HX.out _ (by rw [← hwm]; exact ⟨own7, _, _, HBm, HR.out.step HStm (by decide), HGm, (HGs.out.push HXi.out).step HStm (fun k e => by simp at e), HSt.out.trans (HStm.mono (fun r e => .inr e))⟩)
end Go.Proofs.YtckioocahmbhkaaGreatDoor
