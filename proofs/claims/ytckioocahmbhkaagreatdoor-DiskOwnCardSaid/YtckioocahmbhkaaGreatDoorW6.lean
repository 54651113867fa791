/- Walks: lay. -/
import Derived.Test.YtckioocahmbhkaaGreatDoorW5
import Derived.Outline
namespace Go.Proofs.YtckioocahmbhkaaGreatDoor
open Go Go.RowKit Go.Maps Go.MuLone

def zcells : Array Value := madeCells #[.int .u8 0] 4096
theorem zcells_toList : zcells.toList = bVs zpage := by
  unfold zcells zpage
  rw [toList_madeCells_one, bVs_rep]; rfl
theorem run_zpage (w : World) : (Instr.makeSlice 47 (.int .i64 4096) (.int .i64 4096)).run Tryz.prog w = .ok (.slice (some ⟨w.heap.size, 0, none⟩) 4096 4096) (w.alloc (.cells zcells 5)) := by
  obtain ⟨i0, hi, hz0, hz1, hz2⟩ := info_parts info5
  have := run_make (P := Tryz.prog) w 47 5 i0 (.int .u8 0) Tryz.underlying47 hi hz0 .i64 .i64 4096 4096 (by omega) (by omega) (by rw [hz2]; omega) (by omega)
  rw [hz1] at this
  exact this
theorem ownsRow_zpage (w : World) : (w.alloc (.cells zcells 5)).ownsRow 0 5 1 (.slice (some ⟨w.heap.size, 0, none⟩) 4096 4096) 4096 (bVs zpage) := by
  rw [← zcells_toList]
  exact World.ownsRow_lit w zcells 4096 (Nat.zero_le _) (by decide) (size_madeCells _ _)

theorem cell_chg {S : Nat → Prop} {w w' : World} {b o : Nat} (h : Chg S w w') (hb : b < w.heap.size) (hs : ¬ S b) : w'.cell? ⟨b, o, none⟩ = w.cell? ⟨b, o, none⟩ := World.cell?_of_block (w := w) (h.block b hb hs)
theorem two_new (w : World) (o o' : Obj) : ((w.alloc o).alloc o').drew.heap[w.heap.size + 1]? = some o' := by
  have := heap_alloc_new (w.alloc o) o'
  have e : (w.alloc o).heap.size = w.heap.size + 1 := by simp
  rw [e] at this
  exact this

theorem frozen_chg {S : Nat → Prop} {w w' : World} {b o : Nat} (h : Chg S w w') (hb : b < w.heap.size) (hs : ¬ S b) : w'.frozen? ⟨b, o, none⟩ = w.frozen? ⟨b, o, none⟩ := World.frozen?_of_block (w := w) (h.block b hb hs)

theorem zpage_length : zpage.length = 4096 := by unfold zpage; rw [rep_length]
theorem rep_snoc {α : Type} (n : Nat) (x : α) : rep (n + 1) x = rep n x ++ [x] := by simp [rep, List.replicate_succ']

/-- What one round of lay's loop leaves. -/
theorem lay_round {wr w1 : World} {own1 : Own} {L : Int} {b : Nat} {D : DS} {sema pv : Value} {m M lc gg cap' : Nat} {la : Option Addr} {ls : List Value}
    (h1 : DiskF wr own1 L b D sema (.slice la M lc) pv m) (hM : D.lasting.length = M) (hls : ls.length = M)
    (hlp : ∀ (i : Nat) (p : List UInt8), D.lasting[i]? = some p → ∃ v, ls[i]? = some v ∧ Buf wr own1 (.page i) v p)
    (hown : ∀ g, (Value.slice la M lc).ownBlock = some g → own1 g = some .larr)
    (hown1 : w1.ownsRow 0 47 1 (.slice (some ⟨gg, 0, none⟩) (M + 1) cap') (M + 1) (ls ++ [.slice (some ⟨wr.heap.size, 0, none⟩) 4096 4096]))
    (hgrow : ((wr.alloc (.cells zcells 5)).alloc (.cells #[.slice (some ⟨wr.heap.size, 0, none⟩) 4096 4096] 47)).drew.grownBy w1 (Value.slice la M lc).ownBlock)
    (hat : (Value.slice la M lc).ownBlock = some gg ∨ gg = wr.heap.size + 2) :
    ∃ own', DiskF (w1.setCell ⟨b, 3, none⟩ (.slice (some ⟨gg, 0, none⟩) (M + 1) cap')) own' L b { D with lasting := D.lasting ++ [zpage] } sema (.slice (some ⟨gg, 0, none⟩) (M + 1) cap') pv m ∧ own1.le own' ∧
      Step wr own1 (w1.setCell ⟨b, 3, none⟩ (.slice (some ⟨gg, 0, none⟩) (M + 1) cap')) own' ∧
      Chg (fun k => k = b ∨ (Value.slice la M lc).ownBlock = some k) wr (w1.setCell ⟨b, 3, none⟩ (.slice (some ⟨gg, 0, none⟩) (M + 1) cap')) := by
  subst hM
  have hbl : b < wr.heap.size := h1.lt b (Own.blocks_of h1.str)
  have hbne : (Value.slice la D.lasting.length lc).ownBlock ≠ some b := fun e => by
    have := hown b e
    rw [h1.str] at this; cases this
  have hnew : (Value.slice la D.lasting.length lc).ownBlock ≠ some wr.heap.size := fun e => by
    have := h1.lt _ (Own.blocks_of (hown _ e)); omega
  have hggb : gg ≠ b := fun e => by
    subst e
    rcases hat with e | e
    · exact hbne e
    · omega
  have hc0 : Chg (fun _ => False) wr ((wr.alloc (.cells zcells 5)).alloc (.cells #[.slice (some ⟨wr.heap.size, 0, none⟩) 4096 4096] 47)).drew := (((Chg.refl _ wr).alloc _).alloc _).drew
  have hc : Chg (fun k => k = b ∨ (Value.slice la D.lasting.length lc).ownBlock = some k) wr (w1.setCell ⟨b, 3, none⟩ (.slice (some ⟨gg, 0, none⟩) (D.lasting.length + 1) cap')) :=
    ((hc0.mono (fun _ f => f.elim)).grown hgrow (fun k e => .inl (.inr e))).setCell (p := ⟨b, 3, none⟩) (.inl (.inl rfl)) _
  have hpage : (w1.setCell ⟨b, 3, none⟩ (.slice (some ⟨gg, 0, none⟩) (D.lasting.length + 1) cap')).ownsRow 0 5 1 (.slice (some ⟨wr.heap.size, 0, none⟩) zpage.length 4096) zpage.length (bVs zpage) := by
    rw [zpage_length]
    exact ownsRow_chg (((((ownsRow_zpage wr).alloc _)).drew).kept hgrow (.inr (fun e => hnew (by simpa [Value.ownBlock] using e.symm)))) (chg1 (b := b) (o := 3) _) (fun g e => by simp [Value.ownBlock] at e; omega)
  have hb1 : w1.heap[b]? = wr.heap[b]? := by
    rw [hgrow.block b (Nat.lt_of_lt_of_le hbl hc0.size) (Ne.symm hbne)]
    exact hc0.block b hbl (fun f => f)
  have r := h1.grow (w' := w1.setCell ⟨b, 3, none⟩ (.slice (some ⟨gg, 0, none⟩) (D.lasting.length + 1) cap')) (g := wr.heap.size) (ga := gg) (cap := cap') (capg := 4096) (p := zpage) hls hlp hown (Nat.le_refl _) (hat.imp id (fun e => ⟨by omega, by omega⟩)) hc hpage
    (by rw [zpage_length]; exact ownsRow_chg hown1 (chg1 (b := b) (o := 3) _) (fun g e => by simp [Value.ownBlock] at e; omega))
    (by rw [heap_setCell_same _ (hb1.trans h1.blk)]; rfl)
  obtain ⟨own', r1, r2, r3⟩ := r
  exact ⟨own', r1, r2, r3, hc⟩

theorem role_back {w w1 : World} {own own1 : Own} (hle : own.le own1) (hst : Step w own w1 own1) {x : Nat} {r : Role} (h : own1 x = some r) : own x = some r ∨ w.heap.size ≤ x := by
  rcases hst.new x (Own.blocks_of h) with e | e
  · left
    unfold Own.blocks at e
    cases e2 : own x with
    | none => exact absurd e2 e
    | some r' =>
      have := hle _ _ e2
      rw [h] at this
      cases this; rfl
  · exact .inr e

theorem lenAt_of {w : World} {b n c : Nat} {a : Option Addr} (h : w.cell? ⟨b, 3, none⟩ = some (.slice a n c)) : lenAt w b = n := by unfold lenAt; rw [h]

/-- A page is written over. -/
theorem DiskF.setPage {w w' : World} {own : Own} {L : Int} {b : Nat} {D : DS} {sema lv pv : Value} {m i g cap : Nat} {ls : List Value} {p p' : List UInt8} (h : DiskF w own L b D sema lv pv m)
    (hls : ls.length = D.lasting.length) (harr : Arr w own .larr 47 1 lv D.lasting.length ls) (hlp : ∀ (i : Nat) (p : List UInt8), D.lasting[i]? = some p → ∃ v, ls[i]? = some v ∧ Buf w own (.page i) v p)
    (hi : D.lasting[i]? = some p) (hlen : p'.length = p.length) (hv : ls[i]? = some (.slice (some ⟨g, 0, none⟩) p.length cap)) (ho : own g = some (.page i)) (hc : Chg (fun k => k = g) w w')
    (hnew : w'.ownsRow 0 5 1 (.slice (some ⟨g, 0, none⟩) p.length cap) p.length (bVs p')) :
    DiskF w' own L b { D with lasting := D.lasting.set i p' } sema lv pv m := by
  have k : ∀ x r, own x = some r → r ≠ .page i → ¬ x = g := fun x r e hr hx => by subst hx; rw [ho] at e; cases e; exact hr rfl
  refine ⟨h.str, hc.get h.blk (k b _ h.str (by simp)), ⟨ls, by simpa using hls, ?_, fun j q hj => ?_⟩, h.pend.chg hc (fun x e => k x _ e (by simp)) (fun x i e => k x _ e (by simp)), h.now.chg hc (fun x e => k x _ e (by simp)) (fun x i e => k x _ e (by simp)), h.f0, h.f1,
    fun x hx => Nat.lt_of_lt_of_le (h.lt x hx) hc.size⟩
  · have := harr.chg hc (fun x e => k x _ e (by simp))
    simpa using this
  · by_cases e : i = j
    · subst e
      have hlt := (List.getElem?_eq_some_iff.1 hi).1
      simp only [List.getElem?_set_self hlt, Option.some.injEq] at hj
      subst hj
      exact ⟨_, hv, g, cap, by rw [hlen], ho, by rw [hlen]; exact hnew⟩
    · simp only [List.getElem?_set_ne e] at hj
      obtain ⟨v, hv', hb⟩ := hlp j q hj
      exact ⟨v, hv', hb.chg hc (fun x e' => k x _ e' (by simp; exact Ne.symm e))⟩

theorem splice_bVs (cur : List Value) (bs p : List UInt8) (n : Nat) (hn : n ≤ p.length) (hb : p.length = bs.length) (h : cur.take p.length = bVs p) :
    (splice cur 0 (bVs (bs.take n))).take p.length = bVs (bs.take n ++ p.drop n) := by
  have hl : (bVs (bs.take n)).length = n := by rw [bVs_length, List.length_take]; omega
  unfold splice
  rw [List.take_zero, List.nil_append, Nat.zero_add, hl, List.take_append, hl, List.take_of_length_le (by omega)]
  unfold bVs at *
  rw [List.map_append, List.map_drop, ← h, List.drop_take]

set_option maxRecDepth 100000 in
set_option maxHeartbeats 1000000 in
theorem lay_any (w : World) (own : Own) (L : Int) (b : Nat) (D : DS) (sema lv pv : Value) (m : Nat) (h : DiskF w own L b D sema lv pv m) (hpg : ∀ p ∈ D.lasting, p.length = 4096) (no : Nat) (hno : no ≤ 1000000) (hll : D.lasting.length ≤ 1000000)
    (g o cap : Nat) (bs : List UInt8) (hbs : bs.length = 4096) (hcap : 4096 ≤ cap) (hsee : ∀ (j : Nat) (x : UInt8), bs[j]? = some x → w.cell? ⟨g, o + j, none⟩ = some (bV x)) (hg : own g = none ∨ ∃ i, own g = some (.pend i)) (n : Nat) (hn : n ≤ 4096) :
    Calls Tryz.prog 26 #[.pointer (some ⟨b, 0, none⟩), .int .i64 no, .slice (some ⟨g, o, none⟩) 4096 cap, .int .i64 n] w fun e w' => e = .returned (.tuple #[]) ∧
      ∃ own' lv', DiskF w' own' L b { D with lasting := layL D.lasting no bs n } sema lv' pv m ∧ own.le own' ∧ Step w own w' own' ∧ Chg (fun k => k = b ∨ own k = some .larr ∨ ∃ i, own k = some (.page i)) w w' := by
  obtain ⟨i0, hi, hz0, hz1, hz2⟩ := info_parts info5
  obtain ⟨i1, hi1, hy0, hy1, hy2⟩ := info_parts info27
  have h0 := Lib.hid h
  have Hsee := Lib.hid hsee
  have Hpg := Lib.hid hpg
  have Hbs := Lib.hid hbs
  clear h hsee hpg hbs
  go_enter Tryz.func26, Tryz.ntmps26
  go_wp2_with fail
  go_loopw [] (fun wr => ∃ own' lv' j, DiskF wr own' L b { D with lasting := D.lasting ++ rep j zpage } sema lv' pv m ∧ own.le own' ∧ Step w own wr own' ∧ Chg (fun k => k = b ∨ own k = some .larr ∨ ∃ i, own k = some (.page i)) w wr ∧ j ≤ no + 1 - D.lasting.length)
    (fun wr => no + 1 - lenAt wr b)
  case atStart => exact ⟨own, lv, 0, by simpa [rep] using h0.out, Own.le_refl _, Step.refl _ _, Chg.refl _ _, Nat.zero_le _⟩
  case round =>
    obtain ⟨own1, lv1, j, h1, hle, hst, hchg, hj⟩ := hrel
    obtain ⟨ls, hls, ⟨hrow, hown⟩, hlp⟩ := h1.last
    obtain ⟨la, lc, rfl, hlc, hlm, hlg⟩ := ownsRow_slice hrow
    obtain ⟨M, hM⟩ : ∃ M, M = D.lasting.length + j := ⟨_, rfl⟩
    have hlen : (D.lasting ++ rep j zpage).length = M := by rw [List.length_append, rep_length, hM]
    rw [hlen] at h1 hrow hls hlc hown hlg
    obtain ⟨c3, _, _⟩ := h1.fields
    have fz : wr.frozen? ⟨b, 3, none⟩ = false := by simp [World.frozen?, h1.blk]
    have hbne : (Value.slice la M lc).ownBlock ≠ some b := fun e => by
      have := hown b e
      rw [h1.str] at this; cases this
    have hM2 : M ≤ 1000001 := by omega
    have H1 := Lib.hid h1
    have Hrow := Lib.hid hrow
    have Hown := Lib.hid hown
    have Hls := Lib.hid hls
    have Hlp := Lib.hid hlp
    have HM := Lib.hid hM
    have Hlen := Lib.hid hlen
    have Hhle := Lib.hid hle
    have hmk := run_zpage
    have hbl : b < wr.heap.size := h1.lt b (Own.blocks_of h1.str)
    clear h1 hrow hown hls hlp hM hlen hle
    by_cases hlt : M ≤ no
    · go_wp2_with fail
      go_region_law
        ((refine step_append_lies _ (by rfl) _ _ _ (by rfl) 0 47 i1 _ 1 24 Tryz.underlying25 hi1 hy0 hy1 hy2 rfl (by omega) (.slice la M lc) M ls (by rfl) (((Hrow.out.alloc _).alloc _).drew)
            ⟨wr.heap.size + 1, 0, none⟩ 1 1 [.slice (some ⟨wr.heap.size, 0, none⟩) 4096 4096] (by rfl) (by rfl) (World.news_of_block (cs := #[.slice (some ⟨wr.heap.size, 0, none⟩) 4096 4096]) (t := 47) (fr := (0, 0)) (two_new _ _ _)) (by simp [Value.oneCell'])
            (by omega) (by unfold maxLen; omega) (by omega) (Nat.zero_le _) (wr.heap.size + 2) (by simp) ?_; intro gg cap' w1 hown1 hgrow hat hlt1; have fz1 : w1.frozen? ⟨b, 3, none⟩ = false := (by rw [hgrow.frozen_far _ (by simp; omega) (Ne.symm hbne)]; exact ((Chg.refl (fun _ => False) wr).alloc _ |>.alloc _ |>.drew |> fun hc => frozen_chg hc hbl (fun f => f)).trans fz); have c31 : w1.cell? ⟨b, 3, none⟩ = some (.slice la M lc) := (by rw [hgrow.cell_far _ (by simp; omega) (Ne.symm hbne)]; exact ((Chg.refl (fun _ => False) wr).alloc _ |>.alloc _ |>.drew |> fun hc => cell_chg hc hbl (fun f => f)).trans c3)))
      all_goals
        obtain ⟨own2, r1, r2, r3, r4⟩ := lay_round H1.out Hlen.out Hls.out Hlp.out Hown.out hown1 hgrow hat
        have R1 := Lib.hid r1
        have R2 := Lib.hid r2
        have R3 := Lib.hid r3
        have R4 := Lib.hid r4
        clear r1 r2 r3 r4 hown1 hgrow hat
        go_wp2
        go_roundw
        case rel =>
          refine ⟨own2, .slice (some ⟨gg, 0, none⟩) (M + 1) cap', j + 1, ?_, Own.le_trans Hhle.out R2.out, hst.trans R3.out, hchg.trans R4.out ?_, ?_⟩
          · have := R1.out
            rw [rep_snoc, ← List.append_assoc]
            exact this
          · intro x hx
            rcases hx with e | e
            · exact .inl (.inl e)
            · rcases role_back Hhle.out hst (Hown.out _ e) with e | e
              · exact .inl (.inr (.inl e))
              · exact .inr e
          · have := HM.out; omega
        case measure =>
          obtain ⟨c, _, _⟩ := R1.out.fields
          have e1 := lenAt_of c
          have e2 := lenAt_of c3
          have e3 := Hlen.out
          rw [e2, e1]
          omega
    · have hj2 : j = no + 1 - D.lasting.length := by have := HM.out; omega
      subst hj2
      obtain ⟨ga, rfl⟩ := hlg (by omega)
      obtain ⟨p0, hp0⟩ : ∃ p0, (D.lasting ++ rep (no + 1 - D.lasting.length) zpage)[no]? = some p0 := ⟨_, List.getElem?_eq_getElem (by rw [Hlen.out]; omega)⟩
      have hp0l : p0.length = 4096 := by
        have := List.mem_of_getElem? hp0
        rcases List.mem_append.1 this with e | e
        · exact Hpg.out _ e
        · simp only [rep, List.mem_replicate] at e; rw [e.2, zpage_length]
      obtain ⟨v0, hv0, gp, cp, rfl, hrole, hprow⟩ := Hlp.out no p0 hp0
      have cv : wr.cell? ⟨ga, no, none⟩ = some (.slice (some ⟨gp, 0, none⟩) p0.length cp) := (Hrow.out.cellAt no (by omega)).trans hv0
      rw [hp0l] at cv
      have Hv0 := Lib.hid hv0
      have Hp0l := Lib.hid hp0l
      have Hp0 := Lib.hid hp0
      have Hrole := Lib.hid hrole
      clear hv0 hp0l hp0 hrole
      have hb0 := Lib.hid hprow.2
      have hprow2 := Lib.hid hprow.2
      clear hprow
      go_wp2_with fail
      obtain ⟨cur, hcur, hcurl, hcurt⟩ : ∃ cur : List Value, wr.heap[gp]? = some (.cells cur.toArray 5 (0, 0)) ∧ 4096 ≤ cur.length ∧ cur.take p0.length = bVs p0 := by
        have hpl := Hp0l.out
        rcases hb0.out with ⟨h0, _⟩ | ⟨g', cap', cur, h0, _, hh, hn', _, hsz, htk⟩
        · cases h0
        · cases h0
          refine ⟨cur.toList, by simpa using hh, ?_, by simpa using htk⟩
          rw [Array.length_toList]; omega
      have Hcur := Lib.hid hcur
      have Hcurt := Lib.hid hcurt
      obtain ⟨cs, hcs⟩ : ∃ cs, cs = bVs (bs.take n) := ⟨_, rfl⟩
      have hcsl : cs.length = n := by rw [hcs, bVs_length, List.length_take, Hbs.out]; omega
      have Hcs := Lib.hid hcs
      have Hcsl := Lib.hid hcsl
      have Hsrc : Hid (∀ (j : Nat) (v : Value), cs[j]? = some v → wr.drew.cell? ((⟨g, o, none⟩ : Addr).add j) = some v) := by
        refine Lib.hid (fun j v hj => ?_)
        rw [hcs] at hj
        obtain ⟨x, hx, rfl⟩ := bVs_get hj
        have hx' : bs[j]? = some x := by
          rw [List.getElem?_take] at hx
          split at hx
          · exact hx
          · cases hx
        have e1 := Hsee.out j x hx'
        have hgl := World.block_lt_of_cell? _ _ e1
        rw [show (⟨g, o, none⟩ : Addr).add j = ⟨g, o + j, none⟩ by simp [Addr.add]]
        exact (cell_chg hchg hgl (fun e => by
          have hs := h0.out.str
          rcases hg with h9 | ⟨i9, h9⟩
          · rcases e with e | e | ⟨i, e⟩
            · subst e; rw [h9] at hs; cases hs
            · rw [h9] at e; cases e
            · rw [h9] at e; cases e
          · rcases e with e | e | ⟨i, e⟩
            · subst e; rw [h9] at hs; cases hs
            · rw [h9] at e; cases e
            · rw [h9] at e; cases e)).trans e1
      have Hone : Hid (∀ v ∈ cs, v.oneCell' = true) := by
        refine Lib.hid (fun v hv => ?_)
        rw [hcs] at hv
        exact oneCell_bVs v hv
      clear hcur hcurt hcs hcsl hb0
      have hn0 : (0 : Int) ≤ (n : Int) := Int.natCast_nonneg _
      have hn1 : (n : Int) ≤ (cap : Int) := by omega
      have hno0 : (0 : Int) ≤ (no : Int) := Int.natCast_nonneg _
      have hno1 : (no : Int) < (M : Int) := by omega
      go_region_law
        ((refine step_copy (by rfl) _ _ _ _ (by rfl) 5 Tryz.underlying47 (by kernel_rfl) (some ⟨gp, 0, none⟩) (some ⟨g, o, none⟩) 4096 cp n cap (by rfl) (by rfl) gp 0 cur 5 Hcur.out cs (by rw [Hcsl.out]; exact (Nat.min_eq_left hn).symm) (fun _ => ⟨rfl, _, rfl, Hsrc.out⟩) (by rw [Hcsl.out]; omega) Hone.out ?_; intro w1 hw1 hg1))
      have hpl := Hp0l.out
      have hbl := Hbs.out
      have hcg : Chg (fun k => k = gp) wr w1 := (Chg.refl (fun k => k = gp) wr).drew.grown hg1 (fun k e => .inl (by cases e; rfl))
      have hnl : (bs.take n ++ p0.drop n).length = p0.length := by rw [List.length_append, List.length_take, List.length_drop]; omega
      have hrow1 : w1.ownsRow 0 5 1 (.slice (some ⟨gp, 0, none⟩) p0.length cp) p0.length (bVs (bs.take n ++ p0.drop n)) := by
        have h9 := hprow2.out
        rcases h9 with ⟨h0, _⟩ | ⟨g', cap', cur', h0, _, hh, hn', hmm, hsz, htk⟩
        · cases h0
        · cases h0
          have hcc : cur'.toList = cur := by
            have := hh.symm.trans Hcur.out
            simp only [Option.some.injEq, Obj.cells.injEq] at this
            rw [this.1]
          refine ⟨by rw [bVs_length, hnl]; omega, .inr ⟨gp, cp, (splice cur 0 cs).toArray, rfl, Nat.zero_le _, hw1.out, hn', hmm, ?_, ?_⟩⟩
          · rw [List.size_toArray, length_splice _ _ _ (by rw [Hcsl.out]; omega), ← hcc, Array.length_toList]; exact hsz
          · rw [Nat.mul_one, Hcs.out]
            exact splice_bVs cur bs p0 n (by omega) (by omega) Hcurt.out
      go_end0
      refine ⟨rfl, own1, .slice (some ⟨ga, 0, none⟩) M lc, ?_, Hhle.out, hst.trans (Step.mk (hcg.mono (fun x e => by subst e; exact Own.blocks_of Hrole.out)) (fun x hx => .inl hx)), hchg.trans hcg ?_⟩
      · have := H1.out.setPage (p := p0) (p' := bs.take n ++ p0.drop n) (i := no) (g := gp) (cap := cp) (by rw [Hlen.out]; exact Hls.out) ⟨by rw [Hlen.out]; exact Hrow.out, Hown.out⟩ Hlp.out Hp0.out hnl Hv0.out Hrole.out hcg hrow1
        have e : layL D.lasting no bs n = (D.lasting ++ rep (no + 1 - D.lasting.length) zpage).set no (bs.take n ++ p0.drop n) := by
          unfold layL
          rw [List.getD_eq_getElem?_getD, Hp0.out]; rfl
        rw [e]; exact this
      · intro x e
        subst e
        rcases role_back Hhle.out hst Hrole.out with e | e
        · exact .inl (.inr (.inr ⟨_, e⟩))
        · exact .inr e

end Go.Proofs.YtckioocahmbhkaaGreatDoor
