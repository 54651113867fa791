/- The reference's Write. -/
import Derived.Test.YtckioocahmbhkaaR4
namespace Go.Proofs.Ytckioocahmbhkaa
open Go Go.RowKit Go.Maps Go.MuLone

theorem RefF.write {w w' : World} {own own' : Own} {b : Nat} {D : DS} {lv pv : Value} {g ga cap capg i : Nat} {vs : List Value} {p : List UInt8} (h : RefF w own b D lv pv)
    (hvs : vs.length = D.pending.length) (hvp : ∀ (i : Nat) (q : Nat × List UInt8), D.pending[i]? = some q → ∃ v, vs[i]? = some v ∧ Buf w own (.pend i) v q.2) (hpo : ∀ x, pv.ownBlock = some x → own x = some .parr)
    (hle : own.le own') (ho1 : own' g = some (.pend D.pending.length)) (ho2 : own' ga = some .parr) (ho3 : ∀ k, own'.blocks k → own.blocks k ∨ k = g ∨ k = ga) (hc : Chg (fun k => k = b ∨ pv.ownBlock = some k) w w')
    (hp : w'.ownsRow 0 5 1 (.slice (some ⟨g, 0, none⟩) p.length capg) p.length (bVs p))
    (hl : w'.ownsRow 0 79 2 (.slice (some ⟨ga, 0, none⟩) (D.pending.length + 1) cap) (D.pending.length + 1) (pcells D.pending vs ++ [.int .i64 i, .slice (some ⟨g, 0, none⟩) p.length capg]))
    (hb : w'.heap[b]? = some (.cells (refCells lv (.slice (some ⟨ga, 0, none⟩) (D.pending.length + 1) cap) D) 84 (0, 0))) (n : Nat) :
    RefF w' own' b { D with pending := D.pending ++ [(i, p)], wr := n } lv (.slice (some ⟨ga, 0, none⟩) (D.pending.length + 1) cap) := by
  have k : ∀ x r, own x = some r → r ≠ .str → r ≠ .parr → ¬ (x = b ∨ pv.ownBlock = some x) := fun x r e hr hr' hx => by
    rcases hx with hx | hx
    · exact not_b h.str e hr hx
    · rw [hpo _ hx] at e; cases e; exact hr' rfl
  refine ⟨hle _ _ h.str, hb, ?_, ?_, h.f0, h.f1, fun x hx => ?_⟩
  · exact (h.last.chg hc (fun x e => k x _ e (by simp) (by simp)) (fun x i e => k x _ e (by simp) (by simp))).le hle
  · exact PendAt.snoc hvs hvp hle ho1 ho2 hc (fun x i e => k x _ e (by simp) (by simp)) hp hl
  · rcases ho3 x hx with e | e | e
    · exact Nat.lt_of_lt_of_le (h.lt x e) hc.size
    · subst e; exact row_lt hp
    · subst e; exact row_lt hl

/-- What the Write leaves. -/
theorem rw_end {wr w3 w4 : World} {own : Own} {b : Nat} {D : DS} {lv : Value} {pc gg cap' g1 cg1 i : Nat} {pa : Option Addr} {vs : List Value} {p : List UInt8} (hF : RefF wr own b D lv (.slice pa D.pending.length pc)) (hvs : vs.length = D.pending.length)
    (hvp : ∀ (i : Nat) (q : Nat × List UInt8), D.pending[i]? = some q → ∃ v, vs[i]? = some v ∧ Buf wr own (.pend i) v q.2) (hpo : ∀ x, (Value.slice pa D.pending.length pc).ownBlock = some x → own x = some .parr)
    (hc3 : Chg (fun _ => False) wr w3) (hge1 : wr.heap.size ≤ g1) (hrow1 : w3.ownsRow 0 5 1 (.slice (some ⟨g1, 0, none⟩) p.length cg1) p.length (bVs p))
    (hown4 : w4.ownsRow 0 79 2 (.slice (some ⟨gg, 0, none⟩) (D.pending.length + 1) cap') (D.pending.length + 1) (pcells D.pending vs ++ [.int .i64 i, .slice (some ⟨g1, 0, none⟩) p.length cg1]))
    (hgrow : (w3.alloc (.cells #[.int .i64 i, .slice (some ⟨g1, 0, none⟩) p.length cg1] 79)).grownBy w4 (Value.slice pa D.pending.length pc).ownBlock) (hat : (Value.slice pa D.pending.length pc).ownBlock = some gg ∨ gg = w3.heap.size + 1) (n : Nat) :
    ∃ own', RefF (w4.setCell ⟨b, 2, none⟩ (.slice (some ⟨gg, 0, none⟩) (D.pending.length + 1) cap')) own' b { D with pending := D.pending ++ [(i, p)], wr := n } lv (.slice (some ⟨gg, 0, none⟩) (D.pending.length + 1) cap') ∧
      Step wr own (w4.setCell ⟨b, 2, none⟩ (.slice (some ⟨gg, 0, none⟩) (D.pending.length + 1) cap')) own' := by
  have hbl : b < wr.heap.size := hF.lt b (Own.blocks_of hF.str)
  have hlt1 : g1 < w3.heap.size := row_lt hrow1
  have hbne : (Value.slice pa D.pending.length pc).ownBlock ≠ some b := fun e => by
    have := hpo b e
    rw [hF.str] at this; cases this
  have hnew : ∀ x, (Value.slice pa D.pending.length pc).ownBlock = some x → x < wr.heap.size := fun x e => hF.lt _ (Own.blocks_of (hpo _ e))
  have hs3 := hc3.size
  have hggb : gg ≠ b := fun e => by
    subst e
    rcases hat with e | e
    · exact hbne e
    · omega
  have hc0 : Chg (fun _ => False) wr (w3.alloc (.cells #[.int .i64 i, .slice (some ⟨g1, 0, none⟩) p.length cg1] 79)) := hc3.alloc _
  have hc : Chg (fun k => k = b ∨ (Value.slice pa D.pending.length pc).ownBlock = some k) wr (w4.setCell ⟨b, 2, none⟩ (.slice (some ⟨gg, 0, none⟩) (D.pending.length + 1) cap')) :=
    ((hc0.mono (fun _ f => f.elim)).grown hgrow (fun k e => .inl (.inr e))).setCell (p := ⟨b, 2, none⟩) (.inl (.inl rfl)) _
  have hpage : (w4.setCell ⟨b, 2, none⟩ (.slice (some ⟨gg, 0, none⟩) (D.pending.length + 1) cap')).ownsRow 0 5 1 (.slice (some ⟨g1, 0, none⟩) p.length cg1) p.length (bVs p) :=
    ownsRow_chg ((hrow1.alloc _).kept hgrow (.inr (fun e => by have := hnew g1 (by simpa [Value.ownBlock] using e.symm); omega))) (chg1 (b := b) (o := 2) _) (fun g e => by simp [Value.ownBlock] at e; omega)
  have hb1 : w4.heap[b]? = wr.heap[b]? := by
    rw [hgrow.block b (Nat.lt_of_lt_of_le hbl hc0.size) (Ne.symm hbne)]
    exact hc0.block b hbl (fun f => f)
  obtain ⟨own', e1, e2, e3, e4⟩ := own_two (own := own) (g := g1) (ga := gg) (r := .pend D.pending.length) (ra := .parr) (fun e => by have := hF.lt _ e; omega)
    (hat.imp (fun e => hpo _ e) (fun e => ⟨fun e2 => by have := hF.lt _ e2; omega, by omega⟩))
  refine ⟨own', hF.write hvs hvp hpo e1 e2 e3 e4 hc hpage (ownsRow_chg hown4 (chg1 (b := b) (o := 2) _) (fun g e => by simp [Value.ownBlock] at e; omega)) (by rw [heap_setCell_same _ (hb1.trans hF.blk)]; rfl) n, hc.mono (fun x hx => ?_), fun x hx => ?_⟩
  · rcases hx with e | e
    · subst e; exact Own.blocks_of hF.str
    · exact Own.blocks_of (hpo _ e)
  · rcases e4 x hx with e | e | e
    · exact .inl e
    · subst e; exact .inr hge1
    · subst e
      rcases hat with e | e
      · exact .inl (Own.blocks_of (hpo _ e))
      · exact .inr (by omega)

set_option maxRecDepth 100000 in
set_option maxHeartbeats 4000000 in
theorem rwrite_go (w : World) (own : Own) (b : Nat) (D : DS) (h : RefAt w own b D) (hok : D.ok) (i : Nat) (g0 o0 cap0 : Nat) (p : List UInt8) (hpl : p.length = 4096) (hsee : ∀ (j : Nat) (x : UInt8), p[j]? = some x → w.cell? ⟨g0, o0 + j, none⟩ = some (bV x)) (hg0 : ¬ own.blocks g0)
    (hi1 : i ≤ D.pages) (hi2 : (i : Int) < D.cap) (hoff : D.off = false) (hpn : D.pending.length < 1000000) :
    Calls Try.prog 54 #[.pointer (some ⟨b, 0, none⟩), .int .i64 i, .slice (some ⟨g0, o0, none⟩) 4096 cap0] w fun e w' => e = .returned (.int .i64 (if D.count.off then 123 else 0)) ∧ ∃ own', RefAt w' own' b (D.put i p) ∧ Step w own w' own' := by
  have hD := Lib.hid h
  have hf := Lib.hid (fails_any w own b D h hoff)
  have hpg := Lib.hid (rpages_any w own b D h hok)
  obtain ⟨c0, c3, _, _, _, _⟩ := h.cells
  rw [hoff] at c3
  have Hsee := Lib.hid hsee
  have Hpl := Lib.hid hpl
  have hgb : g0 ≠ b := fun e => hg0 (by subst e; exact Own.blocks_of h.str)
  obtain ⟨i1, hi', hz0, hz1, hz2⟩ := info_parts info79
  clear h hok hoff hsee hpl
  go_enter Try.func54, Try.ntmps54
  go_wp2_with fail
  refine hpg.out.mono ?_
  rintro e w1 ⟨rfl, rfl⟩
  go_wp2_with fail
  refine hf.out.mono ?_
  rintro e w2 ⟨rfl, h2, hc2⟩
  obtain ⟨lv, pv, hF⟩ := h2
  obtain ⟨vs, hvl, ⟨hpa, hpo⟩, hpv⟩ := hF.pend
  obtain ⟨pa, pc, rfl, hpnc, hpm, hpgg⟩ := ownsRow_slice hpa
  change vs.length = D.pending.length at hvl
  change w2.ownsRow 0 79 2 (.slice pa D.pending.length pc) D.pending.length (pcells D.pending vs) at hpa
  change ∀ g, (Value.slice pa D.pending.length pc).ownBlock = some g → own g = some .parr at hpo
  change RefF w2 own b D.count lv (.slice pa D.pending.length pc) at hF
  obtain ⟨_, k2⟩ := hF.fields
  have hbl : b < w2.heap.size := hF.lt b (Own.blocks_of hF.str)
  have hbne : (Value.slice pa D.pending.length pc).ownBlock ≠ some b := fun e => by
    have := hpo b e
    rw [hF.str] at this; cases this
  have fz : w2.frozen? ⟨b, 2, none⟩ = false := by simp [World.frozen?, hF.blk]
  have hS2 : Hid (SeesB w2.drew (.slice (some ⟨g0, o0, none⟩) p.length cap0) p) := Lib.hid ⟨_, _, rfl, fun e => (by cases e), fun ad e j x hx => by
    cases e
    have := Hsee.out j x hx
    rw [addr_add]
    exact (cell_chg hc2 (World.block_lt_of_cell? _ _ this) hgb).trans this⟩
  have hbld : Hid (b < w2.drew.heap.size) := Lib.hid hbl
  have Hpad : Hid (w2.drew.ownsRow 0 79 2 (.slice pa D.pending.length pc) D.pending.length (pcells D.pending vs)) := Lib.hid hpa
  have K2d : Hid (w2.drew.cell? ⟨b, 2, none⟩ = some (.slice pa D.pending.length pc)) := Lib.hid k2
  have Fzd : Hid (w2.drew.frozen? ⟨b, 2, none⟩ = false) := Lib.hid fz
  have HF := Lib.hid hF
  have Hvl := Lib.hid hvl
  have Hpo := Lib.hid hpo
  have Hpv := Lib.hid hpv
  have Hc2 := Lib.hid hc2
  clear hF hvl hpa hpo hpv hc2 hbl
  go_wp2_with fail
  go_region_law
    (first
      | (refine step_append_lies _ (by rfl) _ _ _ (by rfl) 0 79 i1 _ 2 32 Try.underlying35 hi' hz0 hz1 hz2 rfl (by omega) (.slice pa D.pending.length pc) D.pending.length (pcells D.pending vs) (by rfl) (Hrow3.out.alloc _)
            ⟨w3.heap.size, 0, none⟩ 1 1 [.int .i64 i, .slice (some ⟨g1, 0, none⟩) p.length cg1] (by rfl) (by rfl) (World.news_of_block (cs := #[.int .i64 i, .slice (some ⟨g1, 0, none⟩) p.length cg1]) (t := 79) (fr := (0, 0)) (heap_alloc_new w3 _)) (by simp [Value.oneCell'])
            (by omega) (by unfold maxLen; omega) (by omega) (Nat.zero_le _) (w3.heap.size + 1) (by simp) ?_; intro gg cap' w4 hown4 hgrow4 hat4 hlt4; have fz44 : w4.frozen? ⟨b, 2, none⟩ = false := (by rw [hgrow4.frozen_far _ (by simp; omega) (Ne.symm hbne)]; exact (((Chg.refl (fun _ => False) w3).alloc _) |> fun hc => frozen_chg hc hbl3 (fun f => f)).trans fz43); have c44 : w4.cell? ⟨b, 2, none⟩ = some (.slice pa D.pending.length pc) := (by rw [hgrow4.cell_far _ (by simp; omega) (Ne.symm hbne)]; exact (((Chg.refl (fun _ => False) w3).alloc _) |> fun hc => cell_chg hc hbl3 (fun f => f)).trans c43))
      | (go_simp; go_at_call 28; refine (bytes_any _ _ p (by have h := hS2.out; rw [Hpl.out] at h; exact h) (by rw [Hpl.out]; omega)).mono ?_; rintro e w3 ⟨g1, cg1, rfl, hge1, hrow1, hc3⟩; have c43 : w3.cell? ⟨b, 2, none⟩ = some (.slice pa D.pending.length pc) := (cell_chg hc3 hbld.out (fun f => f)).trans K2d.out; have fz43 : w3.frozen? ⟨b, 2, none⟩ = false := (frozen_chg hc3 hbld.out (fun f => f)).trans Fzd.out; have hbl3 : b < w3.heap.size := Nat.lt_of_lt_of_le hbld.out hc3.size; have Hrow3 := Lib.hid (ownsRow_chg Hpad.out hc3 (fun _ _ f => f)); have Hrow1 := Lib.hid hrow1; clear hrow1))
  all_goals
    obtain ⟨own', r1, r2⟩ := rw_end (D := D.count) HF.out Hvl.out Hpv.out Hpo.out ((Chg.refl (fun _ => False) w2).drew.trans hc3 (fun _ f => f.elim)) hge1 Hrow1.out hown4 hgrow4 hat4 (D.wr + 1)
    have R1 : Hid (RefAt (w4.setCell ⟨b, 2, none⟩ (.slice (some ⟨gg, 0, none⟩) (D.pending.length + 1) cap')) own' b (D.put i p)) := Lib.hid ⟨_, _, r1⟩
    have R2 := Lib.hid ((Step.of_b hD.out.str Hc2.out).trans r2)
    clear r1 r2 hown4 hgrow4 hat4 hc3 c43 fz43 c44 fz44
    go_wp2
    all_goals
      go_ret
      refine ⟨?_, own', R1.out, R2.out⟩
      simp [*]

end Go.Proofs.Ytckioocahmbhkaa
