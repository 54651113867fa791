/- Walks: Write, where it writes. -/
import Derived.Test.YtckioocahmbhkaaGreatDoorW10
import Derived.Outline
namespace Go.Proofs.YtckioocahmbhkaaGreatDoor
open Go Go.RowKit Go.Maps Go.MuLone

/-- m[k] = v, as a step of a region that draws. -/
theorem step_mapUpdate {H : Type} {P : Program} {ops : Array Oper} {o : Oper} {a : Act} {w : World} {K : Act → World → Prop} {Q : Exit → Act → World → Prop} {E : Prop} (hgd : o.guard = none) (m x v : Operand) (t : TypeId) (hop : o.op = Op.mapUpdate t m x v)
    (k e : TypeId) (KK : Keyed P k) (ht : P.underlying t = some (.map k e)) (R : Value → Option (DataW H × List MemPlace)) (b n : Nat) (D : DataW H)
    (hm : a.eval m = .map (some b)) (hown : w.ownsMap P k R b n D) (hn : n < maxLen) (key val : Value) (kl : Lit) (hx : a.eval x = key) (hv : a.eval v = val) (hkey : keyOf P k key = some kl)
    (d : DataW H) (ps : List MemPlace) (hval : R val = some (d, ps))
    (hK : ∀ w', w'.ownsMap P k R b (n + 1) (D.put kl d) → w.mapTurned w' b → K (a.put o.dst undef) w') :
    if Region.wanted o (yielded ops a.tmps) = true then Oper.wp P o a w K Q else E := by
  have hw : Region.wanted o (yielded ops a.tmps) = true := by simp [Region.wanted, hgd]
  rw [if_pos hw]
  obtain ⟨w', hrun, r1, r2⟩ := hown.store KK ht hn hkey hval
  unfold Oper.wp
  simp [execOp, hop, hm, hx, hv, hrun, Result.andThen]
  exact hK w' r1 r2

theorem pl_reach : 4096 ≤ reach := by unfold reach; omega

theorem alloc_size1 (w : World) (o : Obj) : (w.alloc o).heap.size = w.heap.size + 1 := by simp

/-- A Write that is carried out. -/
def DS.put (D : DS) (i : Nat) (p : List UInt8) : DS := { D.count with pending := D.pending ++ [(i, p)], wr := D.wr + 1 }

theorem write_mid {w2 w3 w4 : World} {own : Own} {b : Nat} {D : DS} {sema lv : Value} {m g1 cg1 gg cap' pc : Nat} {pa : Option Addr} {vs : List Value} {i : Nat} {p : List UInt8} (hF : DiskF w2 own 1 b D sema lv (.slice pa D.pending.length pc) m)
    (hpo : ∀ g, (Value.slice pa D.pending.length pc).ownBlock = some g → own g = some .parr) {M : DataW Value} (hM : w2.ownsMap Tryz.prog 3 RV m D.wr M) (hge : w2.heap.size ≤ g1)
    (hc3 : Chg (fun _ => False) w2.drew w3) (hrow1 : w3.ownsRow 0 5 1 (.slice (some ⟨g1, 0, none⟩) p.length cg1) p.length (bVs p))
    (hown4 : w4.ownsRow 0 78 2 (.slice (some ⟨gg, 0, none⟩) (D.pending.length + 1) cap') (D.pending.length + 1) (pcells D.pending vs ++ [.int .i64 i, .slice (some ⟨g1, 0, none⟩) p.length cg1]))
    (hgrow : (w3.alloc (.cells #[.int .i64 i, .slice (some ⟨g1, 0, none⟩) p.length cg1] 78)).grownBy w4 (Value.slice pa D.pending.length pc).ownBlock)
    (hat : (Value.slice pa D.pending.length pc).ownBlock = some gg ∨ gg = w3.heap.size + 1) :
    ∃ w5, w5 = w4.setCell ⟨b, 4, none⟩ (.slice (some ⟨gg, 0, none⟩) (D.pending.length + 1) cap') ∧ Chg (fun k => k = b ∨ (Value.slice pa D.pending.length pc).ownBlock = some k) w2 w5 ∧
      w5.ownsRow 0 5 1 (.slice (some ⟨g1, 0, none⟩) p.length cg1) p.length (bVs p) ∧
      w5.ownsRow 0 78 2 (.slice (some ⟨gg, 0, none⟩) (D.pending.length + 1) cap') (D.pending.length + 1) (pcells D.pending vs ++ [.int .i64 i, .slice (some ⟨g1, 0, none⟩) p.length cg1]) ∧
      w5.ownsMap Tryz.prog 3 RV m D.wr M ∧ w5.heap[b]? = some (.cells (strCells 1 sema lv (.slice (some ⟨gg, 0, none⟩) (D.pending.length + 1) cap') m D) 76 (0, 0)) ∧
      ((Value.slice pa D.pending.length pc).ownBlock = some gg ∨ (w2.heap.size ≤ gg ∧ gg ≠ g1)) ∧ g1 < w5.heap.size ∧ gg < w5.heap.size := by
  have hbl : b < w2.heap.size := hF.lt b (Own.blocks_of hF.str)
  have hbne : (Value.slice pa D.pending.length pc).ownBlock ≠ some b := fun e => by
    have := hpo b e
    rw [hF.str] at this; cases this
  have hmb : m ≠ b := fun e => by
    have := hF.now.1
    rw [e, hF.str] at this; cases this
  have hmp : (Value.slice pa D.pending.length pc).ownBlock ≠ some m := fun e => by
    have := hpo m e
    rw [hF.now.1] at this; cases this
  have hsz := hc3.size
  change w2.heap.size ≤ w3.heap.size at hsz
  have hlt1 : g1 < w3.heap.size := by
    rcases hrow1.2 with ⟨h0, _⟩ | ⟨g', _, _, h0, _, hh, _⟩
    · cases h0
    · cases h0; exact heap_lt hh
  have hp1 : (Value.slice pa D.pending.length pc).ownBlock ≠ some g1 := fun e => by
    have := hF.lt _ (Own.blocks_of (hpo _ e)); omega
  have hggb : gg ≠ b := fun e => by
    subst e
    rcases hat with e | e
    · exact hbne e
    · omega
  have hgg1 : gg ≠ g1 := fun e => by
    subst e
    rcases hat with e | e
    · exact hp1 e
    · omega
  have hc4 : Chg (fun k => (Value.slice pa D.pending.length pc).ownBlock = some k) w2 w4 :=
    ((((Chg.refl _ w2).drew.trans hc3 (fun _ f => f.elim)).alloc _).grown hgrow (fun k e => .inl e))
  have hb5 : w4.heap[b]? = w2.heap[b]? := hc4.block b hbl hbne
  refine ⟨_, rfl, (hc4.mono (fun x e => .inr e)).setCell (p := ⟨b, 4, none⟩) (.inl (.inl rfl)) _, ?_, ?_, ?_, ?_, hat.imp id (fun e => ⟨by omega, hgg1⟩), ?_, ?_⟩
  · exact ownsRow_chg ((hrow1.alloc _).kept hgrow (.inr (fun e => hp1 e.symm))) (chg1 (b := b) (o := 4) _) (fun g e => by simp [Value.ownBlock] at e; omega)
  · exact ownsRow_chg hown4 (chg1 (b := b) (o := 4) _) (fun g e => by simp [Value.ownBlock] at e; omega)
  · exact ownsMap_chg (ownsMap_chg hM hc4 hmp) (chg1 (b := b) (o := 4) _) hmb
  · rw [heap_setCell_same _ (hb5.trans hF.blk)]; rfl
  · simp only [World.setCell, Array.size_modify]
    have h9 := hgrow.size
    simp only [alloc_size1] at h9
    omega
  · simp only [World.setCell, Array.size_modify]
    rcases hown4.2 with ⟨h0, _⟩ | ⟨g', _, _, h0, _, hh, _⟩
    · cases h0
    · cases h0; exact heap_lt hh

theorem write_end {w2 w5 w6 w7 : World} {own : Own} {b : Nat} {D : DS} {sema lv : Value} {m g1 cg1 g2 cg2 gg cap' pc : Nat} {pa : Option Addr} {vs : List Value} {i : Nat} {p : List UInt8} (hF : DiskF w2 own 1 b D sema lv (.slice pa D.pending.length pc) m) (hvl : vs.length = D.pending.length)
    (hpo : ∀ g, (Value.slice pa D.pending.length pc).ownBlock = some g → own g = some .parr) (hpv : ∀ (i : Nat) (q : Nat × List UInt8), D.pending[i]? = some q → ∃ v, vs[i]? = some v ∧ Buf w2 own (.pend i) v q.2) {M : DataW Value} (hM : w2.ownsMap Tryz.prog 3 RV m D.wr M)
    (hMq : ∀ i : Int, match lastOf D.pending i with
      | none => Maps.has M (.int .i64 i) = false
      | some p => Maps.has M (.int .i64 i) = true ∧ ∃ v, (∀ z, M.atKey (.int .i64 i) z = .held v) ∧ Buf w2 own (.now i) v p)
    (hc5 : Chg (fun k => k = b ∨ (Value.slice pa D.pending.length pc).ownBlock = some k) w2 w5)
    (q1 : w5.ownsRow 0 5 1 (.slice (some ⟨g1, 0, none⟩) p.length cg1) p.length (bVs p))
    (q2 : w5.ownsRow 0 78 2 (.slice (some ⟨gg, 0, none⟩) (D.pending.length + 1) cap') (D.pending.length + 1) (pcells D.pending vs ++ [.int .i64 i, .slice (some ⟨g1, 0, none⟩) p.length cg1]))
    (q4 : w5.heap[b]? = some (.cells (strCells 1 sema lv (.slice (some ⟨gg, 0, none⟩) (D.pending.length + 1) cap') m D) 76 (0, 0)))
    (q5 : (Value.slice pa D.pending.length pc).ownBlock = some gg ∨ (w2.heap.size ≤ gg ∧ gg ≠ g1)) (q6 : g1 < w5.heap.size) (q7 : gg < w5.heap.size) (hge1 : w2.heap.size ≤ g1)
    (hge2 : w5.drew.heap.size ≤ g2) (hc6 : Chg (fun _ => False) w5.drew w6) (hrow2 : w6.ownsRow 0 5 1 (.slice (some ⟨g2, 0, none⟩) p.length cg2) p.length (bVs p))
    (hm7 : w7.ownsMap Tryz.prog 3 RV m (D.wr + 1) (M.put (.int .i64 i) (.held (.slice (some ⟨g2, 0, none⟩) p.length cg2)))) (ht7 : w6.grownBy w7 (some m)) :
    ∃ own', DiskAt w7 own' 1 b { D with pending := D.pending ++ [(i, p)], wr := D.wr + 1 } ∧ Step w2 own w7 own' := by
  have hmb : m ≠ b := fun e => by
    have := hF.now.1
    rw [e, hF.str] at this; cases this
  have hml : m < w2.heap.size := hF.lt m (Own.blocks_of hF.now.1)
  have h5 := hc5.size
  have h6 := hc6.size
  change w5.heap.size ≤ g2 at hge2
  have hgm : gg ≠ m := fun e => by
    subst e
    rcases q5 with e | e
    · have := hpo _ e; rw [hF.now.1] at this; cases this
    · omega
  have hc56 : Chg (fun _ => False) w5 w6 := (Chg.refl _ w5).drew.trans hc6 (fun _ f => f.elim)
  have hc57 : Chg (fun k => k = m) w5 w7 := (hc56.mono (fun _ f => f.elim)).grown ht7 (fun k e => .inl (by cases e; rfl))
  have hc67 : Chg (fun k => k = m) w6 w7 := (Chg.refl _ w6).grown ht7 (fun k e => .inl (by cases e; rfl))
  have hc : Chg (fun k => k = b ∨ (Value.slice pa D.pending.length pc).ownBlock = some k ∨ k = m) w2 w7 :=
    (hc5.mono (fun x e => e.imp id Or.inl)).trans hc57 (fun x e => .inl (.inr (.inr e)))
  obtain ⟨own', r1, _, r3⟩ := hF.write hvl hpo hpv hMq hM.isMap hc i p hge1 (by omega) (by omega) (q5.imp id (fun e => ⟨e.1, e.2, by omega⟩))
    (ownsRow_chg q1 hc57 (fun g e => by simp [Value.ownBlock] at e; omega))
    (ownsRow_chg hrow2 hc67 (fun g e => by simp [Value.ownBlock] at e; omega))
    (ownsRow_chg q2 hc57 (fun g e => by simp [Value.ownBlock] at e; omega))
    hm7 (hc57.get q4 (Ne.symm hmb))
  exact ⟨own', ⟨_, _, _, _, r1⟩, r3⟩

set_option maxRecDepth 100000 in
set_option maxHeartbeats 1600000 in
theorem write_go (w : World) (own : Own) (b : Nat) (D : DS) (h : DiskAt w own 0 b D) (hok : D.ok) (i : Nat) (g0 o0 cap0 : Nat) (p : List UInt8) (hpl : p.length = 4096) (hcap0 : 4096 ≤ cap0) (hsee : ∀ (j : Nat) (x : UInt8), p[j]? = some x → w.cell? ⟨g0, o0 + j, none⟩ = some (bV x)) (hg0 : ¬ own.blocks g0)
    (hi1 : i ≤ D.pages) (hi2 : (i : Int) < D.cap) (hi3 : i < 524287) (hoff : D.off = false) (hwr : D.wr < 1000000) (hpn : D.pending.length < 1000000) :
    Calls Tryz.prog 6 #[.pointer (some ⟨b, 0, none⟩), .int .i64 i, .slice (some ⟨g0, o0, none⟩) 4096 cap0] w fun e w' => e = .returned (.int .i64 (if D.count.off then 123 else 0)) ∧ ∃ own', DiskAt w' own' 0 b (D.put i p) ∧ Step w own w' own' := by
  have h1 := h.lock 0 1
  have hD1 := Lib.hid h1
  have Hok := Lib.hid hok
  obtain ⟨hs, hfz⟩ := h.lockCell
  obtain ⟨c2, h6, _, _, _⟩ := h1.cells
  have hstr := h.str
  have Hstr := Lib.hid hstr
  rw [hoff] at h6
  have Hsee := Lib.hid hsee
  have Hpl := Lib.hid hpl
  have Hoff := Lib.hid hoff
  clear h h1 hok hoff hstr hsee hpl c2 h6
  go_enter_defers Tryz.func6, Tryz.ntmps6
  go_wp2_with (go_at_call 21; refine (lock_free Tryz.muLib ⟨b, 0, none⟩ _ hs (hfz 0)).mono ?_; rintro e w' ⟨rfl, rfl⟩)
  refine (pages_any _ own 1 b D hD1.out Hok.out.no' Hok.out.len').mono ?_
  rintro e w1 ⟨rfl, hc1⟩
  have h2 := hD1.out.chg hc1 (fun _ _ f => f)
  have hD2 := Lib.hid h2
  obtain ⟨c2, h6, _, _, _⟩ := h2.cells
  rw [Hoff.out] at h6
  clear h2
  go_wp2_with fail
  refine (count_any _ own 1 b D hD2.out).mono ?_
  rintro e w2 ⟨rfl, hD3, hc2⟩
  obtain ⟨sema, lv, pv, m, hF⟩ := hD3
  have hcw : Chg (fun x => x = b) w w2 := ((chg1 (b := b) (o := 0) _).trans hc1 (fun _ f => f.elim)).trans hc2 (fun x e => .inl e)
  obtain ⟨vs, hvl, ⟨hpa, hpo⟩, hpv⟩ := hF.pend
  obtain ⟨hmo, M, hM, hMq⟩ := hF.now
  obtain ⟨pa, pc, rfl, hpnc, hpm, hpg⟩ := ownsRow_slice hpa
  obtain ⟨_, c4, c5⟩ := hF.fields
  obtain ⟨i1, hi', hz0, hz1, hz2⟩ := info_parts info79
  change vs.length = D.pending.length at hvl
  change w2.ownsRow 0 78 2 (.slice pa D.pending.length pc) D.pending.length (pcells D.pending vs) at hpa
  change w2.cell? ⟨b, 4, none⟩ = some (.slice pa D.pending.length pc) at c4
  change w2.ownsMap Tryz.prog 3 RV m D.wr M at hM
  change ∀ g, (Value.slice pa D.pending.length pc).ownBlock = some g → own g = some .parr at hpo
  have hbl : b < w2.heap.size := hF.lt b (Own.blocks_of hF.str)
  have hbne : (Value.slice pa D.pending.length pc).ownBlock ≠ some b := fun e => by
    have := hpo b e
    rw [hF.str] at this; cases this
  have hmb : m ≠ b := fun e => by
    subst e
    rw [hF.str] at hmo; cases hmo
  have Hsee2 : Hid (∀ (j : Nat) (x : UInt8), p[j]? = some x → w2.cell? ⟨g0, o0 + j, none⟩ = some (bV x)) := Lib.hid (fun j x hx => (cell_chg hcw (World.block_lt_of_cell? _ _ (Hsee.out j x hx)) (fun e => hg0 (by subst e; exact Own.blocks_of Hstr.out))).trans (Hsee.out j x hx))
  have hS2 : Hid (Sees w2 (.slice (some ⟨g0, o0, none⟩) 4096 cap0) p) := by
    refine Lib.hid ⟨g0, o0, cap0, by rw [Hpl.out], by rw [Hpl.out]; exact hcap0, by rw [Hpl.out]; exact pl_reach, fun j x hx => ?_⟩
    have := Hsee.out j x hx
    exact (cell_chg hcw (World.block_lt_of_cell? _ _ this) (fun e => hg0 (by subst e; exact Own.blocks_of Hstr.out))).trans this
  have hne : Hid (p ≠ []) := Lib.hid (fun e => by have := Hpl.out; rw [e] at this; simp at this)
  have hS2d : Hid (Sees w2.drew (.slice (some ⟨g0, o0, none⟩) 4096 cap0) p) := hS2
  have hbld : b < w2.drew.heap.size := hbl
  have Hpad : Hid (w2.drew.ownsRow 0 78 2 (.slice pa D.pending.length pc) D.pending.length (pcells D.pending vs)) := Lib.hid hpa
  have c4d : w2.drew.cell? ⟨b, 4, none⟩ = some (.slice pa D.pending.length pc) := c4
  have fz4 : w2.frozen? ⟨b, 4, none⟩ = false := by simp [World.frozen?, hF.blk]
  have fz4d : w2.drew.frozen? ⟨b, 4, none⟩ = false := fz4
  have C4d := Lib.hid c4d
  have Fz4d := Lib.hid fz4d
  have Hbld := Lib.hid hbld
  clear c4d fz4d hbld
  have HF := Lib.hid hF
  have Hvl := Lib.hid hvl
  have Hpa := Lib.hid hpa
  have Hpo := Lib.hid hpo
  have Hpv := Lib.hid hpv
  have HM := Lib.hid hM
  have HMq := Lib.hid hMq
  have Hmo := Lib.hid hmo
  have Hcw := Lib.hid hcw
  clear hF hvl hpa hpo hpv hM hMq hmo hcw
  go_wp2_with fail
  refine wp_region_noPanic ?_
  go_region_law
    (first
      | (refine step_append_lies _ (by rfl) _ _ _ (by rfl) 0 78 i1 _ 2 32 Tryz.underlying54 hi' hz0 hz1 hz2 rfl (by omega) (.slice pa D.pending.length pc) D.pending.length (pcells D.pending vs) (by rfl) (Hrow3.out.alloc _)
            ⟨w3.heap.size, 0, none⟩ 1 1 [.int .i64 i, .slice (some ⟨g1, 0, none⟩) p.length cg1] (by rfl) (by rfl) (World.news_of_block (cs := #[.int .i64 i, .slice (some ⟨g1, 0, none⟩) p.length cg1]) (t := 78) (fr := (0, 0)) (heap_alloc_new w3 _)) (by simp [Value.oneCell'])
            (by omega) (by unfold maxLen; omega) (by omega) (Nat.zero_le _) (w3.heap.size + 1) (by simp) ?_; intro gg cap' w4 hown4 hgrow4 hat4 hlt4; have fz44 : w4.frozen? ⟨b, 4, none⟩ = false := (by rw [hgrow4.frozen_far _ (by simp; omega) (Ne.symm hbne)]; exact (((Chg.refl (fun _ => False) w3).alloc _) |> fun hc => frozen_chg hc hbl3 (fun f => f)).trans fz43); have c44 : w4.cell? ⟨b, 4, none⟩ = some (.slice pa D.pending.length pc) := (by rw [hgrow4.cell_far _ (by simp; omega) (Ne.symm hbne)]; exact (((Chg.refl (fun _ => False) w3).alloc _) |> fun hc => cell_chg hc hbl3 (fun f => f)).trans c43))
      | (go_simp; go_at_call 25; refine (clone_any _ _ p hS2d.out hne.out).mono ?_; rintro e w3 ⟨g1, cg1, rfl, hge1, hrow1, hc3⟩; have c43 : w3.cell? ⟨b, 4, none⟩ = some (.slice pa D.pending.length pc) := (cell_chg hc3 Hbld.out (fun f => f)).trans C4d.out; have fz43 : w3.frozen? ⟨b, 4, none⟩ = false := (frozen_chg hc3 Hbld.out (fun f => f)).trans Fz4d.out; have hbl3 : b < w3.heap.size := Nat.lt_of_lt_of_le Hbld.out hc3.size; have Hrow3 := Lib.hid (ownsRow_chg Hpad.out hc3 (fun _ _ f => f)); have Hrow1 := Lib.hid hrow1; clear hrow1))
  all_goals refine NoPanic.normal ?_
  all_goals
    have hpl := Hpl.out
    obtain ⟨w5, ew5, hc5, q1, q2, q3, q4, q5, q6, q7⟩ := write_mid HF.out Hpo.out HM.out hge1 hc3 Hrow1.out hown4 hgrow4 hat4
    have Q1 := Lib.hid q1
    have Q2 := Lib.hid q2
    have Q3 := Lib.hid q3
    have Q4 := Lib.hid q4
    have Q5 := Lib.hid q5
    have Hc5 := Lib.hid hc5
    have hS5 : Hid (Sees w5.drew (.slice (some ⟨g0, o0, none⟩) 4096 cap0) p) := by
      refine Lib.hid ⟨g0, o0, cap0, by rw [Hpl.out], by rw [Hpl.out]; exact hcap0, by rw [Hpl.out]; exact pl_reach, fun j x hx => ?_⟩
      have := Hsee2.out j x hx
      exact (cell_chg hc5 (World.block_lt_of_cell? _ _ this) (fun e => hg0 (by
        rcases e with e | e
        · subst e; exact Own.blocks_of Hstr.out
        · exact Own.blocks_of (Hpo.out _ e)))).trans this
    change w5 = w4.setCell ⟨b, 4, none⟩ (.slice (some ⟨gg, 0, none⟩) (D.pending.length + 1) cap') at ew5
    rw [← ew5]
    have c55 : w5.cell? ⟨b, 5, none⟩ = some (.map (some m)) := by simp [World.cell?, q4, strCells]
    have Hbl5 : Hid (b < w5.heap.size) := Lib.hid (heap_lt q4)
    clear hpl ew5 hc5 q1 q2 q3 q4 q5 hown4 hgrow4 hat4 hc3 c43 fz43 c44 fz44 hbl3 hlt4
    go_wp2_with fail
    have c55d : Hid (w5.drew.cell? ⟨b, 5, none⟩ = some (.map (some m))) := Lib.hid c55
    have Hbl5d : Hid (b < w5.drew.heap.size) := Hbl5
    have Q3d : Hid (w5.drew.ownsMap Tryz.prog 3 RV m D.wr M) := Q3
    go_region_held3 (fun w' => w'.cell? ⟨b, 5, none⟩ = some (.map (some m)))
      (first
        | exact c56
        | exact c57
        | go_keep)
      (first
        | (go_simp; go_at_call 25; refine (clone_any _ _ p hS5.out hne.out).mono ?_; rintro e w6 ⟨g2, cg2, rfl, hge2, hrow2, hc6⟩; have c56 : w6.cell? ⟨b, 5, none⟩ = some (.map (some m)) := (cell_chg hc6 Hbl5d.out (fun f => f)).trans c55d.out; obtain ⟨w7, hrun7, hm7, ht7⟩ := (ownsMap_chg Q3d.out hc6 (fun f => f)).store law3 Tryz.underlying67 (by unfold maxLen; omega) (keyInt (i := i) (by omega) (by omega)) (show RV (.slice (some ⟨g2, 0, none⟩) p.length cg2) = some (_, []) from rfl); have c57 : w7.cell? ⟨b, 5, none⟩ = some (.map (some m)) := (ht7.grown.cell c56 (fun e => hmb (Option.some.inj e).symm)); have Hm7 := Lib.hid hm7; have Ht7 := Lib.hid ht7.grown; clear hm7 ht7; have Hrow2 := Lib.hid hrow2; clear hrow2))
    all_goals
      obtain ⟨own', h8, hst8⟩ := write_end HF.out Hvl.out Hpo.out Hpv.out HM.out HMq.out Hc5.out Q1.out Q2.out Q4.out Q5.out q6 q7 hge1 hge2 hc6 Hrow2.out Hm7.out Ht7.out
      obtain ⟨hs8, hfz8⟩ := h8.lockCell
      have H8 := Lib.hid h8
      have Hst8 := Lib.hid hst8
      clear h8 hst8 hrun7 c57
      go_wp2
      all_goals
        refine leaves_cons (f := 22) (args := #[.pointer (some ⟨b, 0, none⟩)]) (by simp) (by simp [go_sem]) ?_
        refine (unlock_deferred Tryz.muLib ⟨b, 0, none⟩ .returning _ hs8 (hfz8 0)).mono ?_
        rintro e u' w'' ⟨rfl, rfl, rfl⟩
        refine ⟨_, results_tmp rfl _ _ _, ?_, own', H8.out.lock 1 0, ((Step.of_b Hstr.out Hcw.out).trans Hst8.out).trans (Step.of_b H8.out.str (chg1 _))⟩
        simp [*]

end Go.Proofs.YtckioocahmbhkaaGreatDoor
