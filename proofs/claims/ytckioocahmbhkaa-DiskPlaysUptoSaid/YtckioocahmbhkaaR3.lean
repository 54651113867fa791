/- The reference's lasts: the first bytes of a write reach the disk. -/
import Derived.Test.YtckioocahmbhkaaR2
namespace Go.Proofs.Ytckioocahmbhkaa
open Go Go.RowKit Go.Maps Go.MuLone

def DS.more (D : DS) (L : List (List UInt8)) : DS := { D with lasting := L }

theorem RefF.grow {w w' : World} {own own' : Own} {b : Nat} {D : DS} {lv pv : Value} {g ga cap capg : Nat} {ls : List Value} {p : List UInt8} (h : RefF w own b D lv pv)
    (hls : ls.length = D.lasting.length) (hlp : ∀ (i : Nat) (p : List UInt8), D.lasting[i]? = some p → ∃ v, ls[i]? = some v ∧ Buf w own (.page i) v p) (hlo : ∀ x, lv.ownBlock = some x → own x = some .larr)
    (hle : own.le own') (ho1 : own' g = some (.page D.lasting.length)) (ho2 : own' ga = some .larr) (ho3 : ∀ k, own'.blocks k → own.blocks k ∨ k = g ∨ k = ga) (hc : Chg (fun k => k = b ∨ lv.ownBlock = some k) w w')
    (hp : w'.ownsRow 0 5 1 (.slice (some ⟨g, 0, none⟩) p.length capg) p.length (bVs p))
    (hl : w'.ownsRow 0 27 1 (.slice (some ⟨ga, 0, none⟩) (D.lasting.length + 1) cap) (D.lasting.length + 1) (ls ++ [.slice (some ⟨g, 0, none⟩) p.length capg]))
    (hb : w'.heap[b]? = some (.cells (refCells (.slice (some ⟨ga, 0, none⟩) (D.lasting.length + 1) cap) pv D) 84 (0, 0))) :
    RefF w' own' b (D.more (D.lasting ++ [p])) (.slice (some ⟨ga, 0, none⟩) (D.lasting.length + 1) cap) pv := by
  have k : ∀ x r, own x = some r → r ≠ .str → r ≠ .larr → ¬ (x = b ∨ lv.ownBlock = some x) := fun x r e hr hr' hx => by
    rcases hx with hx | hx
    · exact not_b h.str e hr hx
    · rw [hlo _ hx] at e; cases e; exact hr' rfl
  refine ⟨hle _ _ h.str, hb, ?_, ?_, h.f0, h.f1, fun x hx => ?_⟩
  · exact LastAt.snoc hls hlp hle ho1 ho2 hc (fun x i e => k x _ e (by simp) (by simp)) hp hl
  · exact (h.pend.chg hc (fun x e => k x _ e (by simp) (by simp)) (fun x i e => k x _ e (by simp) (by simp))).le hle
  · rcases ho3 x hx with e | e | e
    · exact Nat.lt_of_lt_of_le (h.lt x e) hc.size
    · subst e; exact row_lt hp
    · subst e; exact row_lt hl

/-- What one round leaves. -/
theorem rl_round {wr wz w1 : World} {own1 : Own} {b : Nat} {D : DS} {pv : Value} {M lc gg cap' gz : Nat} {la : Option Addr} {ls : List Value}
    (h1 : RefF wr own1 b D (.slice la M lc) pv) (hM : D.lasting.length = M) (hls : ls.length = M)
    (hlp : ∀ (i : Nat) (p : List UInt8), D.lasting[i]? = some p → ∃ v, ls[i]? = some v ∧ Buf wr own1 (.page i) v p)
    (hown : ∀ g, (Value.slice la M lc).ownBlock = some g → own1 g = some .larr)
    (hcz : Chg (fun _ => False) wr wz) (hgz : wr.heap.size ≤ gz) (hrow : wz.ownsRow 0 5 1 (.slice (some ⟨gz, 0, none⟩) 4096 4096) 4096 (bVs zpage))
    (hown1 : w1.ownsRow 0 27 1 (.slice (some ⟨gg, 0, none⟩) (M + 1) cap') (M + 1) (ls ++ [.slice (some ⟨gz, 0, none⟩) 4096 4096]))
    (hgrow : (wz.alloc (.cells #[.slice (some ⟨gz, 0, none⟩) 4096 4096] 27)).grownBy w1 (Value.slice la M lc).ownBlock)
    (hat : (Value.slice la M lc).ownBlock = some gg ∨ gg = wz.heap.size + 1) :
    ∃ own', RefF (w1.setCell ⟨b, 1, none⟩ (.slice (some ⟨gg, 0, none⟩) (M + 1) cap')) own' b (D.more (D.lasting ++ [zpage])) (.slice (some ⟨gg, 0, none⟩) (M + 1) cap') pv ∧ own1.le own' ∧
      Step wr own1 (w1.setCell ⟨b, 1, none⟩ (.slice (some ⟨gg, 0, none⟩) (M + 1) cap')) own' ∧ Chg (fun k => k = b ∨ own1 k = some .larr) wr (w1.setCell ⟨b, 1, none⟩ (.slice (some ⟨gg, 0, none⟩) (M + 1) cap')) := by
  subst hM
  have hbl : b < wr.heap.size := h1.lt b (Own.blocks_of h1.str)
  have hltz : gz < wz.heap.size := row_lt hrow
  have hbne : (Value.slice la D.lasting.length lc).ownBlock ≠ some b := fun e => by
    have := hown b e
    rw [h1.str] at this; cases this
  have hnew : ∀ x, (Value.slice la D.lasting.length lc).ownBlock = some x → x < wr.heap.size := fun x e => h1.lt _ (Own.blocks_of (hown _ e))
  have hsz := hcz.size
  have hggb : gg ≠ b := fun e => by
    subst e
    rcases hat with e | e
    · exact hbne e
    · omega
  have hc0 : Chg (fun _ => False) wr (wz.alloc (.cells #[.slice (some ⟨gz, 0, none⟩) 4096 4096] 27)) := hcz.alloc _
  have hc : Chg (fun k => k = b ∨ (Value.slice la D.lasting.length lc).ownBlock = some k) wr (w1.setCell ⟨b, 1, none⟩ (.slice (some ⟨gg, 0, none⟩) (D.lasting.length + 1) cap')) :=
    ((hc0.mono (fun _ f => f.elim)).grown hgrow (fun k e => .inl (.inr e))).setCell (p := ⟨b, 1, none⟩) (.inl (.inl rfl)) _
  have hpage : (w1.setCell ⟨b, 1, none⟩ (.slice (some ⟨gg, 0, none⟩) (D.lasting.length + 1) cap')).ownsRow 0 5 1 (.slice (some ⟨gz, 0, none⟩) zpage.length 4096) zpage.length (bVs zpage) := by
    rw [zpage_length]
    exact ownsRow_chg ((hrow.alloc _).kept hgrow (.inr (fun e => by have := hnew gz (by simpa [Value.ownBlock] using e.symm); omega))) (chg1 (b := b) (o := 1) _) (fun g e => by simp [Value.ownBlock] at e; omega)
  have hb1 : w1.heap[b]? = wr.heap[b]? := by
    rw [hgrow.block b (Nat.lt_of_lt_of_le hbl hc0.size) (Ne.symm hbne)]
    exact hc0.block b hbl (fun f => f)
  obtain ⟨own', e1, e2, e3, e4⟩ := own_two (own := own1) (g := gz) (ga := gg) (r := .page D.lasting.length) (ra := .larr) (fun e => by have := h1.lt _ e; omega)
    (hat.imp (fun e => hown _ e) (fun e => ⟨fun e2 => by have := h1.lt _ e2; omega, by omega⟩))
  refine ⟨own', h1.grow hls hlp hown e1 e2 e3 e4 hc hpage (by rw [zpage_length]; exact ownsRow_chg hown1 (chg1 (b := b) (o := 1) _) (fun g e => by simp [Value.ownBlock] at e; omega)) (by rw [heap_setCell_same _ (hb1.trans h1.blk)]; rfl), e1, ⟨hc.mono (fun x hx => ?_), fun x hx => ?_⟩, hc.mono (fun x hx => hx.imp id (fun e => hown _ e))⟩
  · rcases hx with e | e
    · subst e; exact Own.blocks_of h1.str
    · exact Own.blocks_of (hown _ e)
  · rcases e4 x hx with e | e | e
    · exact .inl e
    · subst e; exact .inr hgz
    · subst e
      rcases hat with e | e
      · exact .inl (Own.blocks_of (hown _ e))
      · exact .inr (by omega)

set_option maxRecDepth 100000 in
set_option maxHeartbeats 4000000 in
theorem rl_grow {Q0 : Exit → Act → World → Prop} {s1 s2 s3 s5 s6 s7 s8 s9 s10 s11 s12 s13 s14 s15 s16 s17 s18 s19 s20 s21 s22 s23 s24 s25 s26 s27 s28 s29 s30 s31 s32 s33 s34 s35 s36 s37 s38 s39 s40 s41 s42 s43 s44 s45 s46 s47 s48 s49 s50 s51 s52 s53 s54 s55 s56 s57 s58 s59 s60 s61 : Value} (w : World) (own : Own) (b : Nat) (D : DS) (lv pv : Value) (hF : RefF w own b D lv pv) (gw no g o cap : Nat) (hbox : w.heap[gw]? = some (.cells #[.int .i64 no, .slice (some ⟨g, o, none⟩) 4096 cap] 79 (0, 0))) (hgw : ¬ own.blocks gw) (hno : no ≤ 1000000) (hll : D.lasting.length ≤ 1000000)
    (hexit : ∀ ⦃u6 u9 u10 u11 u12 u13 u14 u15 u16 u17 u18 u19 u20 u21 u22 u23 u24 u25 u26 u27 : Value⦄ (w' : World), (∃ own' lv', RefF w' own' b (D.more (D.lasting ++ rep (no + 1 - D.lasting.length) zpage)) lv' pv ∧ own.le own' ∧ Step w own w' own' ∧ Chg (fun k => k = b ∨ own k = some .larr) w w') → Q0 .normal ⟨List.toArray (.pointer (some ⟨b, 0, none⟩) :: s1 :: s2 :: s3 :: .pointer (some ⟨gw, 0, none⟩) :: s5 :: u6 :: s7 :: s8 :: u9 :: u10 :: u11 :: u12 :: u13 :: u14 :: u15 :: u16 :: u17 :: u18 :: u19 :: u20 :: u21 :: u22 :: u23 :: u24 :: u25 :: u26 :: u27 :: s28 :: s29 :: s30 :: s31 :: s32 :: s33 :: s34 :: s35 :: s36 :: s37 :: s38 :: s39 :: s40 :: s41 :: s42 :: s43 :: s44 :: s45 :: s46 :: s47 :: s48 :: s49 :: s50 :: s51 :: s52 :: s53 :: s54 :: s55 :: s56 :: s57 :: s58 :: s59 :: s60 :: s61 :: []), []⟩ w') :
    Code.wp Try.prog (blk 0 Try.f56) Q0 ⟨List.toArray (.pointer (some ⟨b, 0, none⟩) :: s1 :: s2 :: s3 :: .pointer (some ⟨gw, 0, none⟩) :: s5 :: s6 :: s7 :: s8 :: s9 :: s10 :: s11 :: s12 :: s13 :: s14 :: s15 :: s16 :: s17 :: s18 :: s19 :: s20 :: s21 :: s22 :: s23 :: s24 :: s25 :: s26 :: s27 :: s28 :: s29 :: s30 :: s31 :: s32 :: s33 :: s34 :: s35 :: s36 :: s37 :: s38 :: s39 :: s40 :: s41 :: s42 :: s43 :: s44 :: s45 :: s46 :: s47 :: s48 :: s49 :: s50 :: s51 :: s52 :: s53 :: s54 :: s55 :: s56 :: s57 :: s58 :: s59 :: s60 :: s61 :: []), []⟩ w := by
  have HX := Lib.hid hexit
  have HF := Lib.hid hF
  have HB := Lib.hid hbox
  obtain ⟨i1, hi1, hy0, hy1, hy2⟩ := info_parts info27
  clear hexit hF hbox
  conv => arg 2; whnf
  go_wp2_with fail
  go_loopg [] (no + 1 - D.lasting.length) (fun gm wr => ∃ (own' : Own) (lv' : Value) (j : Nat), j ≤ no + 1 - D.lasting.length ∧ gm = no + 1 - D.lasting.length - j ∧ RefF wr own' b (D.more (D.lasting ++ rep j zpage)) lv' pv ∧ own.le own' ∧ Step w own wr own' ∧ Chg (fun k => k = b ∨ own k = some .larr) w wr)
  case atStart => exact ⟨own, lv, 0, by omega, rfl, by simpa [rep, DS.more] using HF.out, Own.le_refl _, Step.refl _ _, Chg.refl _ _⟩
  case round =>
    obtain ⟨own1, lv1, j, hj, hg, h1, hle, hst, hchg⟩ := hrel
    have Hchg := Lib.hid hchg
    clear hchg
    have Hg := Lib.hid hg
    obtain ⟨ls, hls, ⟨hrow, hown⟩, hlp⟩ := h1.last
    obtain ⟨la, lc, rfl, hlc, hlm, hlg⟩ := ownsRow_slice hrow
    obtain ⟨M, hM⟩ : ∃ M, M = D.lasting.length + j := ⟨_, rfl⟩
    have hlen : (D.more (D.lasting ++ rep j zpage)).lasting.length = M := by show (D.lasting ++ rep j zpage).length = M; rw [List.length_append, rep_length, hM]
    rw [hlen] at h1 hrow hls hown
    obtain ⟨c1, _⟩ := h1.fields
    have fz : wr.frozen? ⟨b, 1, none⟩ = false := by simp [World.frozen?, h1.blk]
    have hbne : (Value.slice la M lc).ownBlock ≠ some b := fun e => by
      have := hown b e
      rw [h1.str] at this; cases this
    obtain ⟨kb1, kb2, kb3⟩ := hst.keep hgw (heap_lt HB.out)
    have hbox1 := kb3.trans HB.out
    have cw : wr.cell? ⟨gw, 0, none⟩ = some (.int .i64 no) := by simp [World.cell?, hbox1]
    have hM2 : M ≤ 1000001 := by omega
    have H1 := Lib.hid h1
    have Hrow := Lib.hid hrow
    have Hown := Lib.hid hown
    have Hls := Lib.hid hls
    have Hlp := Lib.hid hlp
    have HM := Lib.hid hM
    have Hlen := Lib.hid hlen
    have Hle := Lib.hid hle
    have Hst := Lib.hid hst
    have hbl : b < wr.heap.size := h1.lt b (Own.blocks_of h1.str)
    clear h1 hrow hown hls hlp hM hlen hle hst hg kb1 kb2 kb3 hbox1
    by_cases hlt : M ≤ no
    · go_wp2_with fail
      go_quiet ((fail))
      go_wp2_with fail
      refine (zeros_any _).mono ?_
      rintro e wz ⟨rfl, hz⟩
      have hcz : Chg (fun _ => False) wr wz := by rw [← hz]; exact ((Chg.refl _ wr).drewN nq).alloc _
      have hrz : wz.ownsRow 0 5 1 (.slice (some ⟨wr.heap.size, 0, none⟩) 4096 4096) 4096 (bVs zpage) := by rw [← hz]; exact ownsRow_zpage (wr.drewN nq)
      obtain ⟨gz, hgz⟩ : ∃ gz, gz = wr.heap.size := ⟨_, rfl⟩
      have hge : wr.heap.size ≤ gz := by omega
      rw [← hgz] at hrz
      rw [show (wr.drewN nq).heap.size = gz from hgz.symm]
      have cz1 : wz.cell? ⟨b, 1, none⟩ = some (.slice la M lc) := (cell_chg hcz hbl (fun f => f)).trans c1
      have fz1 : wz.frozen? ⟨b, 1, none⟩ = false := (frozen_chg hcz hbl (fun f => f)).trans fz
      have hblz : b < wz.heap.size := Nat.lt_of_lt_of_le hbl hcz.size
      have Hrz := Lib.hid hrz
      have Hcz := Lib.hid hcz
      have Hrow2 := Lib.hid (ownsRow_chg Hrow.out hcz (fun _ _ f => f))
      clear hz hcz hrz hgz c1 fz
      go_wp2_with (at_builtin; refine wpList_append_lies _ rfl _ _ _ rfl 0 27 i1 _ 1 24 Try.underlying46 hi1 hy0 hy1 hy2 rfl (by omega) (.slice la M lc) M ls (by rfl) (Hrow2.out.alloc _) ⟨wz.heap.size, 0, none⟩ 1 1 [.slice (some ⟨gz, 0, none⟩) 4096 4096] (by rfl) (by rfl) (World.news_of_block (cs := #[.slice (some ⟨gz, 0, none⟩) 4096 4096]) (t := 27) (fr := (0, 0)) (heap_alloc_new wz _)) (by simp [Value.oneCell']) (by omega) (by unfold maxLen; omega) (by omega) (Nat.zero_le _) (wz.heap.size + 1) (by simp) ?_; intro gg cap' w1 hown1 hgrow hat hlt1; have fz11 : w1.frozen? ⟨b, 1, none⟩ = false := (by rw [hgrow.frozen_far _ (by simp; omega) (Ne.symm hbne)]; exact ((Chg.refl (fun _ => False) wz).alloc _ |> fun hc => frozen_chg hc hblz (fun f => f)).trans fz1); have c11 : w1.cell? ⟨b, 1, none⟩ = some (.slice la M lc) := (by rw [hgrow.cell_far _ (by simp; omega) (Ne.symm hbne)]; exact ((Chg.refl (fun _ => False) wz).alloc _ |> fun hc => cell_chg hc hblz (fun f => f)).trans cz1))
      obtain ⟨own2, r1, r2, r3, r4⟩ := rl_round H1.out Hlen.out Hls.out Hlp.out Hown.out Hcz.out hge Hrz.out hown1 hgrow hat
      go_roundg (no + 1 - D.lasting.length - (j + 1))
      case measure => have := Hg.out; have := HM.out; omega
      case rel =>
        refine ⟨own2, .slice (some ⟨gg, 0, none⟩) (M + 1) cap', j + 1, by have := HM.out; omega, rfl, ?_, Own.le_trans Hle.out r2, Hst.out.trans r3, Hchg.out.trans r4 (fun x hx => ?_)⟩
        have : (D.more (D.lasting ++ rep j zpage)).more ((D.more (D.lasting ++ rep j zpage)).lasting ++ [zpage]) = D.more (D.lasting ++ rep (j + 1) zpage) := by
          unfold DS.more; rw [rep_snoc, List.append_assoc]
        · rw [← this]; exact r1
        · rcases hx with e | e
          · exact .inl (.inl e)
          · exact (role_back Hle.out Hst.out e).imp Or.inr id
    · go_wp2_with fail
      go_quiet ((fail))
      go_wp2_with fail
      have e : j = no + 1 - D.lasting.length := by have := HM.out; omega
      have h2 : RefF (wr.drewN nq) own1 b (D.more (D.lasting ++ rep j zpage)) (.slice la M lc) pv := H1.out.chg ((Chg.refl (fun _ => False) wr).drewN nq) (fun _ _ f => f)
      refine HX.out _ ⟨own1, .slice la M lc, by rw [← e]; exact h2, Hle.out, Hst.out.trans (Step.of_none ((Chg.refl _ _).drewN _)), Hchg.out.drewN _⟩

theorem tornN_lt' (x : Int) (n : Nat) (h1 : n ≤ (tornN x).toNat) : (n : Int) < x ∧ n < 4096 ↔ n < (tornN x).toNat := by unfold tornN at *; omega
theorem lay_set (bs p : List UInt8) (j : Nat) (y : UInt8) (hj : j < p.length) (hy : bs[j]? = some y) : (bs.take j ++ p.drop j).set j y = bs.take (j + 1) ++ p.drop (j + 1) := by
  have hjb := (List.getElem?_eq_some_iff.1 hy).1
  have hl : (bs.take j).length = j := by rw [List.length_take]; omega
  have e : p.drop j = p[j] :: p.drop (j + 1) := List.drop_eq_getElem_cons hj
  rw [e, List.set_append_right _ _ (by omega), hl, Nat.sub_self, List.set_cons_zero, List.take_add_one, hy, List.append_assoc]; rfl

set_option maxRecDepth 100000 in
set_option maxHeartbeats 4000000 in
theorem rl_fill {Q0 : Exit → Act → World → Prop} {s0 s1 s3 s5 s6 s9 s10 s11 s12 s13 s14 s15 s16 s17 s18 s19 s20 s21 s22 s23 s24 s25 s26 s27 s28 s29 s30 s31 s32 s33 s34 s35 s36 s37 s38 s39 s40 s41 s42 s43 s44 s45 s46 s47 s48 s49 s50 s51 s52 s53 s54 s55 s56 s57 s58 s59 s60 s61 : Value} (w : World) (gw no g o cap : Nat) (hbox : w.heap[gw]? = some (.cells #[.int .i64 no, .slice (some ⟨g, o, none⟩) 4096 cap] 79 (0, 0))) (bs : List UInt8) (hbs : bs.length = 4096) (hcap : 4096 ≤ cap) (hsee : ∀ (j : Nat) (x : UInt8), bs[j]? = some x → w.cell? ⟨g, o + j, none⟩ = some (bV x)) (gp cp : Nat) (p0 : List UInt8) (hp0 : p0.length = 4096) (hrow : w.ownsRow 0 5 1 (.slice (some ⟨gp, 0, none⟩) 4096 cp) 4096 (bVs p0)) (hne1 : gp ≠ gw) (hne2 : gp ≠ g) (at' : Int)
    (hexit : ∀ ⦃u8 u37 u38 u39 u40 u41 u42 u43 u44 u45 u46 u47 u48 u49 u50 u51 u52 u53 : Value⦄ (w' : World), (Chg (fun x => x = gp) w w' ∧ w'.ownsRow 0 5 1 (.slice (some ⟨gp, 0, none⟩) 4096 cp) 4096 (bVs (bs.take (tornN at').toNat ++ p0.drop (tornN at').toNat))) → Q0 .normal ⟨List.toArray (s0 :: s1 :: .int .i64 at' :: s3 :: .pointer (some ⟨gw, 0, none⟩) :: s5 :: s6 :: .slice (some ⟨gp, 0, none⟩) 4096 cp :: u8 :: s9 :: s10 :: s11 :: s12 :: s13 :: s14 :: s15 :: s16 :: s17 :: s18 :: s19 :: s20 :: s21 :: s22 :: s23 :: s24 :: s25 :: s26 :: s27 :: s28 :: s29 :: s30 :: s31 :: s32 :: s33 :: s34 :: s35 :: s36 :: u37 :: u38 :: u39 :: u40 :: u41 :: u42 :: u43 :: u44 :: u45 :: u46 :: u47 :: u48 :: u49 :: u50 :: u51 :: u52 :: u53 :: s54 :: s55 :: s56 :: s57 :: s58 :: s59 :: s60 :: s61 :: []), []⟩ w') :
    Code.wp Try.prog (blk 2 Try.f56) Q0 ⟨List.toArray (s0 :: s1 :: .int .i64 at' :: s3 :: .pointer (some ⟨gw, 0, none⟩) :: s5 :: s6 :: .slice (some ⟨gp, 0, none⟩) 4096 cp :: .int .i64 0 :: s9 :: s10 :: s11 :: s12 :: s13 :: s14 :: s15 :: s16 :: s17 :: s18 :: s19 :: s20 :: s21 :: s22 :: s23 :: s24 :: s25 :: s26 :: s27 :: s28 :: s29 :: s30 :: s31 :: s32 :: s33 :: s34 :: s35 :: s36 :: s37 :: s38 :: s39 :: s40 :: s41 :: s42 :: s43 :: s44 :: s45 :: s46 :: s47 :: s48 :: s49 :: s50 :: s51 :: s52 :: s53 :: s54 :: s55 :: s56 :: s57 :: s58 :: s59 :: s60 :: s61 :: []), []⟩ w := by
  have HX := Lib.hid hexit
  have HB := Lib.hid hbox
  have HS := Lib.hid hsee
  have Hbs := Lib.hid hbs
  have Hp0 := Lib.hid hp0
  have HR := Lib.hid hrow
  have ht4 : (tornN at').toNat ≤ 4096 := by unfold tornN; omega
  clear hexit hbox hsee hbs hp0 hrow
  conv => arg 2; whnf
  go_wp2_with fail
  go_loopg [8] ((tornN at').toNat) (fun gm jv wr => ∃ j : Nat, j ≤ (tornN at').toNat ∧ gm = (tornN at').toNat - j ∧ jv = .int .i64 j ∧ Chg (fun x => x = gp) w wr ∧ wr.ownsRow 0 5 1 (.slice (some ⟨gp, 0, none⟩) 4096 cp) 4096 (bVs (bs.take j ++ p0.drop j)))
  case atStart => exact ⟨0, by omega, rfl, rfl, Chg.refl _ _, by simpa using HR.out⟩
  case round =>
    obtain ⟨j, hj, hg, rfl, hc, hr⟩ := hrel
    have Hg := Lib.hid hg
    have Hr := Lib.hid hr
    have Hiff := Lib.hid (tornN_lt' at' j hj)
    clear hg hr
    by_cases hlt : j < (tornN at').toNat
    · obtain ⟨h1, h2⟩ := Hiff.out.2 hlt
      have hbox1 := (hc.block gw (heap_lt HB.out) (Ne.symm hne1)).trans HB.out
      have cw : wr.cell? ⟨gw, 1, none⟩ = some (.slice (some ⟨g, o, none⟩) 4096 cap) := by simp [World.cell?, hbox1]
      obtain ⟨y, hy⟩ : ∃ y, bs[j]? = some y := ⟨_, List.getElem?_eq_getElem (by have := Hbs.out; omega)⟩
      have cd0 := HS.out j y hy
      have cd : wr.cell? ⟨g, o + j, none⟩ = some (.int .u8 y.toNat) := (cell_chg hc (World.block_lt_of_cell? _ _ cd0) (Ne.symm hne2)).trans cd0
      have hlen : (bs.take j ++ p0.drop j).length = 4096 := by have := Hbs.out; have := Hp0.out; rw [List.length_append, List.length_take, List.length_drop]; omega
      have hcell := Hr.out.cellAt j (by omega)
      obtain ⟨u0, hcell2⟩ : ∃ u, wr.cell? ⟨gp, j, none⟩ = some u := ⟨_, by rw [hcell]; exact List.getElem?_eq_getElem (by rw [bVs_length]; omega)⟩
      have hfz : wr.frozen? ⟨gp, j, none⟩ = false := Hr.out.frozenAt j
      have hr2 := ownsRow_setCell Hr.out j (bV y) (by rw [bVs_length]; omega)
      rw [← bVs_set, lay_set bs p0 j y (by have := Hp0.out; omega) hy] at hr2
      have Hr2 := Lib.hid hr2
      clear hbox1 hy cd0 hlen hcell hr2
      go_wp2_with fail
      go_roundg ((tornN at').toNat - (j + 1))
      case measure => have := Hg.out; omega
      case rel => exact ⟨j + 1, by omega, rfl, by go_num, hc.setCell (p := ⟨gp, j, none⟩) (.inl rfl) _, Hr2.out⟩
    · have hj2 : j = (tornN at').toNat := by omega
      have Hj2 := Lib.hid hj2
      clear hj2
      by_cases h1 : (j : Int) < at'
      · have h2 : ¬ j < 4096 := fun h => hlt (Hiff.out.1 ⟨h1, h⟩)
        go_wp2_with fail
        exact HX.out wr ⟨hc, by rw [← Hj2.out]; exact Hr.out⟩
      · go_wp2_with fail
        exact HX.out wr ⟨hc, by rw [← Hj2.out]; exact Hr.out⟩

/-- The last step of 'lasts': the page is another one. -/
theorem RefF.put {w w' : World} {own own' : Own} {b i g cap : Nat} {D : DS} {lv pv : Value} {ls : List Value} {p : List UInt8} (h : RefF w own b D lv pv)
    (hls : ls.length = D.lasting.length) (hlo : ∀ x, lv.ownBlock = some x → own x = some .larr) (hlp : ∀ (i : Nat) (p : List UInt8), D.lasting[i]? = some p → ∃ v, ls[i]? = some v ∧ Buf w own (.page i) v p)
    (hi : i < D.lasting.length) (hle : own.le own') (ho1 : own' g = some (.page i)) (ho3 : ∀ k, own'.blocks k → own.blocks k ∨ k = g) (hc : Chg (fun k => lv.ownBlock = some k) w w')
    (hp : w'.ownsRow 0 5 1 (.slice (some ⟨g, 0, none⟩) p.length cap) p.length (bVs p))
    (hl : w'.ownsRow 0 27 1 lv D.lasting.length (ls.set i (.slice (some ⟨g, 0, none⟩) p.length cap))) :
    RefF w' own' b (D.more (D.lasting.set i p)) lv pv := by
  have k : ∀ x r, own x = some r → r ≠ .larr → ¬ (lv.ownBlock = some x) := fun x r e hr' hx => by
    rw [hlo _ hx] at e; cases e; exact hr' rfl
  refine ⟨hle _ _ h.str, hc.get h.blk (k b _ h.str (by simp)), ?_, ?_, h.f0, h.f1, fun x hx => ?_⟩
  · exact LastAt.put hls hlo hlp hi hle ho1 hc (fun x i e => k x _ e (by simp)) hp hl
  · exact (h.pend.chg hc (fun x e => k x _ e (by simp)) (fun x i e => k x _ e (by simp))).le hle
  · rcases ho3 x hx with e | e
    · exact Nat.lt_of_lt_of_le (h.lt x e) hc.size
    · subst e; exact row_lt hp

theorem layL_eq {L : List (List UInt8)} {no n : Nat} {bs p : List UInt8} (hp : (L ++ rep (no + 1 - L.length) zpage)[no]? = some p) : layL L no bs n = (L ++ rep (no + 1 - L.length) zpage).set no (bs.take n ++ p.drop n) := by
  unfold layL
  rw [List.getD_eq_getElem?_getD, hp, Option.getD_some]

theorem grown_page' {B : List (List UInt8)} {I : Nat} (hB : ∀ p ∈ B, p.length = 4096) : ∃ p, (B ++ rep (I + 1 - B.length) zpage)[I]? = some p ∧ p.length = 4096 := by
  have hl : I < (B ++ rep (I + 1 - B.length) zpage).length := by rw [List.length_append, rep_length]; omega
  refine ⟨_, List.getElem?_eq_getElem hl, ?_⟩
  have hm := List.getElem_mem hl
  rcases List.mem_append.1 hm with e | e
  · exact hB _ e
  · have : ∀ x ∈ rep (I + 1 - B.length) zpage, x = zpage := fun x hx => by simp only [rep, List.mem_replicate] at hx; exact hx.2
    rw [this _ e, zpage_length]

set_option maxRecDepth 100000 in
set_option maxHeartbeats 4000000 in
theorem rlasts_any (w : World) (own : Own) (b : Nat) (D : DS) (lv pv : Value) (hF : RefF w own b D lv pv) (hpg : ∀ p ∈ D.lasting, p.length = 4096) (no : Nat) (hno : no ≤ 1000000) (hll : D.lasting.length ≤ 1000000)
    (g o cap : Nat) (bs : List UInt8) (hbs : bs.length = 4096) (hcap : 4096 ≤ cap) (hsee : ∀ (j : Nat) (x : UInt8), bs[j]? = some x → w.cell? ⟨g, o + j, none⟩ = some (bV x)) (hg : own g = none ∨ ∃ i, own g = some (.pend i)) (at' : Int) :
    Calls Try.prog 56 #[.pointer (some ⟨b, 0, none⟩), .agg #[.int .i64 no, .slice (some ⟨g, o, none⟩) 4096 cap], .int .i64 at'] w fun e w' => e = .returned (.tuple #[]) ∧
      ∃ own' lv', RefF w' own' b (D.more (layL D.lasting no bs (tornN at').toNat)) lv' pv ∧ own.le own' ∧ Step w own w' own' ∧ Chg (fun k => k = b ∨ own k = some .larr) w w' := by
  have HF := Lib.hid hF
  have Hpg := Lib.hid hpg
  have Hsee := Lib.hid hsee
  have Hbs := Lib.hid hbs
  have hgl : g < w.heap.size := by
    have := hsee 0 _ (List.getElem?_eq_getElem (by omega))
    exact World.block_lt_of_cell? _ _ this
  clear hF hpg hsee hbs
  go_enter Try.func56, Try.ntmps56
  go_upto_block 0 with fail
  obtain ⟨wb, hwb⟩ : ∃ wb, wb = w.alloc (.cells #[.int .i64 no, .slice (some ⟨g, o, none⟩) 4096 cap] 79) := ⟨_, rfl⟩
  obtain ⟨gw, hgw⟩ : ∃ gw, gw = w.heap.size := ⟨_, rfl⟩
  have hcb : Chg (fun _ => False) w wb := by rw [hwb]; exact (Chg.refl _ w).alloc _
  have hbox : wb.heap[gw]? = some (.cells #[.int .i64 no, .slice (some ⟨g, o, none⟩) 4096 cap] 79 (0, 0)) := by rw [hwb, hgw]; exact heap_alloc_new w _
  rw [← hwb, ← hgw]
  have HFb := Lib.hid (HF.out.chg hcb (fun _ _ f => f))
  have hgo : ¬ own.blocks gw := fun e => by have := HF.out.lt gw e; omega
  have Hgw := Lib.hid hgw
  clear hwb hgw
  refine rl_grow wb own b D lv pv HFb.out gw no g o cap hbox hgo hno hll ?_
  intro u6 u9 u10 u11 u12 u13 u14 u15 u16 u17 u18 u19 u20 u21 u22 u23 u24 u25 u26 u27 w1 h1
  obtain ⟨own1, lv1, hF1, hle1, hst1, hc1⟩ := h1
  obtain ⟨p0, hp0, hpl⟩ := grown_page' (I := no) Hpg.out
  obtain ⟨L1, hL1⟩ : ∃ L1, L1 = D.lasting ++ rep (no + 1 - D.lasting.length) zpage := ⟨_, rfl⟩
  have hlay := layL_eq (bs := bs) (n := (tornN at').toNat) hp0
  rw [← hL1] at hF1 hp0 hlay
  obtain ⟨ls, hls, harr, hlp⟩ := hF1.last
  have hlt1 := (List.getElem?_eq_some_iff.1 hp0).1
  obtain ⟨_, lc, rfl, hlc, hlm, hla⟩ := ownsRow_slice harr.1
  obtain ⟨la, rfl⟩ := hla (by show 0 < L1.length; omega)
  change ls.length = L1.length at hls
  change ∀ (i : Nat) (p : List UInt8), L1[i]? = some p → ∃ v, ls[i]? = some v ∧ Buf w1 own1 (.page i) v p at hlp
  change Arr w1 own1 .larr 27 1 (.slice (some ⟨la, 0, none⟩) L1.length lc) L1.length ls at harr
  change RefF w1 own1 b (D.more L1) (.slice (some ⟨la, 0, none⟩) L1.length lc) pv at hF1
  obtain ⟨v, hv, gq, cq, rfl, hrole, hbuf⟩ := hlp no p0 hp0
  obtain ⟨cb1, _⟩ := hF1.fields
  obtain ⟨kb1, kb2, kb3⟩ := hst1.keep hgo (heap_lt hbox)
  have hbox1 := kb3.trans hbox
  have cw1 : w1.cell? ⟨gw, 0, none⟩ = some (.int .i64 no) := by simp [World.cell?, hbox1]
  have cl1 : w1.cell? ⟨la, no, none⟩ = some (.slice (some ⟨gq, 0, none⟩) p0.length cq) := (harr.1.cellAt no (by omega)).trans hv
  rw [hpl] at cl1 hbuf
  have hS : SeesB w1.drew (.slice (some ⟨gq, 0, none⟩) p0.length cq) p0 := by
    rw [hpl]
    have := SeesB.of_row (w := w1) (v := .slice (some ⟨gq, 0, none⟩) 4096 cq) (bs := p0) (by rw [hpl]; exact hbuf)
    exact this
  have HS := Lib.hid hS
  have hno0 : (0 : Int) ≤ (no : Int) := Int.natCast_nonneg _
  have hno1 : (no : Int) < (L1.length : Int) := by omega
  have hbl1 : b < w1.drew.heap.size := hF1.lt b (Own.blocks_of hF1.str)
  have hgwl1 : gw < w1.drew.heap.size := kb2
  have hlal1 : la < w1.drew.heap.size := row_lt harr.1
  have Hbl1 := Lib.hid hbl1
  have Hgwl1 := Lib.hid hgwl1
  have Hlal1 := Lib.hid hlal1
  have HF1 := Lib.hid hF1
  have Hlay := Lib.hid hlay
  have Hls := Lib.hid hls
  have Harr := Lib.hid harr
  have Hlp := Lib.hid hlp
  have Hpl := Lib.hid hpl
  have Hst1 := Lib.hid hst1
  have Hle1 := Lib.hid hle1
  have Hc1 := Lib.hid hc1
  have Hb1 := Lib.hid hbox1
  have Hcb := Lib.hid hcb
  have Hkb1 := Lib.hid kb1
  clear hF1 hlay hls harr hlp hpl hst1 hle1 hc1 hbox1 hS hbl1 hgwl1 hlal1 hp0 hL1 hv hrole hbuf kb1 kb2 kb3 hbox hcb
  go_wp2_with fail
  go_region_held3 (fun w' => w'.cell? ⟨b, 1, none⟩ = some (.slice (some ⟨la, 0, none⟩) L1.length lc) ∧ w'.cell? ⟨gw, 0, none⟩ = some (.int .i64 no) ∧ w'.cell? ⟨la, no, none⟩ = some (.slice (some ⟨gq, 0, none⟩) 4096 cq))
    (first
      | exact k2
      | go_keep)
    (first
      | (go_simp; go_at_call 28; refine (bytes_any _ _ p0 (by have h := HS.out; rw [Hpl.out] at h; exact h) (by rw [Hpl.out]; omega)).mono ?_; rintro e w2 ⟨gp, cp, rfl, hge, hrp, hc2⟩; have k2 : w2.cell? ⟨b, 1, none⟩ = some (.slice (some ⟨la, 0, none⟩) L1.length lc) ∧ w2.cell? ⟨gw, 0, none⟩ = some (.int .i64 no) ∧ w2.cell? ⟨la, no, none⟩ = some (.slice (some ⟨gq, 0, none⟩) 4096 cq) := ⟨(cell_chg hc2 Hbl1.out (fun f => f)).trans cb1, (cell_chg hc2 Hgwl1.out (fun f => f)).trans cw1, (cell_chg hc2 Hlal1.out (fun f => f)).trans cl1⟩))
  obtain ⟨k21, k22, k23⟩ := k2
  have hpl := Hpl.out
  rw [hpl] at hrp ⊢
  have hc2' : Chg (fun _ => False) w1 w2 := (Chg.refl (fun _ => False) w1).drew.trans hc2 (fun _ f => f.elim)
  have hbox2 : w2.heap[gw]? = some (.cells #[.int .i64 no, .slice (some ⟨g, o, none⟩) 4096 cap] 79 (0, 0)) := (hc2'.block gw Hgwl1.out (fun f => f)).trans Hb1.out
  have hgb : g ≠ b := fun e => by
    subst e
    have := HF.out.str
    rcases hg with h | ⟨i, h⟩
    · rw [this] at h; cases h
    · rw [this] at h; cases h
  have hglr : own g ≠ some .larr := fun e => by
    rcases hg with h | ⟨i, h⟩
    · rw [e] at h; cases h
    · rw [e] at h; cases h
  have hsee2 : ∀ (j : Nat) (x : UInt8), bs[j]? = some x → w2.cell? ⟨g, o + j, none⟩ = some (bV x) := fun j x hx => by
    have e0 := Hsee.out j x hx
    have e1 := (cell_chg (o := o + j) Hcb.out hgl (fun f => f)).trans e0
    have e2 := (cell_chg (o := o + j) Hc1.out (Nat.lt_of_lt_of_le hgl Hcb.out.size) (fun e => e.elim hgb hglr)).trans e1
    exact (cell_chg hc2' (World.block_lt_of_cell? _ _ e2) (fun f => f)).trans e2
  have hszb := Hcb.out.size
  have hsz1 := Hst1.out.chg.size
  have hge1 : w1.heap.size ≤ gp := hge
  have hne1 : gp ≠ gw := fun e => by have : gw < w1.heap.size := Hgwl1.out; omega
  have hne2 : gp ≠ g := fun e => by omega
  have hne3 : gp ≠ la := fun e => by have : la < w1.heap.size := Hlal1.out; omega
  have hne4 : gp ≠ b := fun e => by have : b < w1.heap.size := Hbl1.out; omega
  have Hc2' := Lib.hid hc2'
  have Hbox2 := Lib.hid hbox2
  have Hsee2 := Lib.hid hsee2
  have Hrp := Lib.hid hrp
  have Harr2 := Lib.hid (ownsRow_chg Harr.out.1 hc2' (fun _ _ f => f))
  clear hc2 hc2' hbox2 hsee2 hrp hge k21 k22 k23 cb1 cw1 cl1 hpl hgb hglr
  go_upto_block 2 with fail
  refine rl_fill w2 gw no g o cap Hbox2.out bs Hbs.out hcap Hsee2.out gp cp p0 Hpl.out Hrp.out hne1 hne2 at' ?_
  intro u8 u37 u38 u39 u40 u41 u42 u43 u44 u45 u46 u47 u48 u49 u50 u51 u52 u53 w3 h3
  obtain ⟨hc3, hr3⟩ := h3
  have hlar3 := ownsRow_chg Harr2.out hc3 (fun g e => by cases e; exact Ne.symm hne3)
  have hb3 : w3.heap[b]? = w1.heap[b]? := (hc3.block b (Nat.lt_of_lt_of_le Hbl1.out Hc2'.out.size) (Ne.symm hne4)).trans (Hc2'.out.block b Hbl1.out (fun f => f))
  have hbx3 : w3.heap[gw]? = some (.cells #[.int .i64 no, .slice (some ⟨g, o, none⟩) 4096 cap] 79 (0, 0)) := (hc3.block gw (heap_lt Hbox2.out) (Ne.symm hne1)).trans Hbox2.out
  have d1 : w3.drew.cell? ⟨b, 1, none⟩ = some (.slice (some ⟨la, 0, none⟩) L1.length lc) := (World.cell?_of_block (w := w1) hb3).trans HF1.out.fields.1
  have d2 : w3.drew.cell? ⟨gw, 0, none⟩ = some (.int .i64 no) := by show w3.cell? _ = _; simp [World.cell?, hbx3]
  have hlal : ls.length = L1.length := Hls.out
  have hcell3 := hlar3.cellAt no (by omega)
  obtain ⟨u0, d3⟩ : ∃ u, w3.drew.cell? ⟨la, no, none⟩ = some u := ⟨_, by rw [show w3.drew.cell? ⟨la, no, none⟩ = w3.cell? ⟨la, no, none⟩ from rfl, hcell3]; exact List.getElem?_eq_getElem (by omega)⟩
  have d4 : w3.drew.frozen? ⟨la, no, none⟩ = false := hlar3.frozenAt no
  have Hc3 := Lib.hid hc3
  have Hr3 := Lib.hid hr3
  have Hlar3 := Lib.hid hlar3
  clear hc3 hr3 hlar3 hb3 hbx3 hcell3
  go_wp2_with fail
  go_region_law
    (fail)
  all_goals
    go_end0
    obtain ⟨own2, hown2⟩ : ∃ own2, own2 = own1.upd gp (.page no) := ⟨_, rfl⟩
    have hfresh : ¬ own1.blocks gp := fun e => by have := HF1.out.lt gp e; omega
    have hle2 : own1.le own2 := by rw [hown2]; exact Own.le_upd _ hfresh
    have hb2 : ∀ k, own2.blocks k → own1.blocks k ∨ k = gp := fun k hk => by rw [hown2] at hk; exact Own.blocks_upd hk
    have hlr : own1 la = some .larr := Harr.out.2 la rfl
    have hcw : Chg (fun k => k = la) w1 (w3.setCell ⟨la, no, none⟩ (.slice (some ⟨gp, 0, none⟩) 4096 cp)).drew :=
      (((Hc2'.out.mono (S' := fun k => k = la) (fun _ f => f.elim)).trans Hc3.out (fun x e => .inr (by omega))).setCell (p := ⟨la, no, none⟩) (.inl rfl) _).drew
    have hlen2 : (bs.take (tornN at').toNat ++ p0.drop (tornN at').toNat).length = 4096 := by
      have ht4 : (tornN at').toNat ≤ 4096 := by unfold tornN; omega
      rw [List.length_append, List.length_take, List.length_drop, Hpl.out, Hbs.out]; omega
    have hput := RefF.put (w' := (w3.setCell ⟨la, no, none⟩ (.slice (some ⟨gp, 0, none⟩) 4096 cp)).drew) (own' := own2) (i := no) (g := gp) (cap := cp) (p := bs.take (tornN at').toNat ++ p0.drop (tornN at').toNat) HF1.out Hls.out Harr.out.2 Hlp.out (by show no < L1.length; omega) hle2 (by rw [hown2]; exact Own.upd_same _ _ _) hb2
      (hcw.mono (fun k e => by subst e; rfl)) (by rw [hlen2]; exact ownsRow_chg Hr3.out (((Chg.refl (fun k => k = la) w3).setCell (p := ⟨la, no, none⟩) (.inl rfl) _).drew) (fun x e => by cases e; exact hne3))
      (by rw [hlen2]; exact ownsRow_setCell Hlar3.out no _ (by omega))
    refine ⟨rfl, own2, .slice (some ⟨la, 0, none⟩) L1.length lc, by rw [Hlay.out]; exact hput, Own.le_trans Hle1.out hle2, ?_, ?_⟩
    · refine (Step.of_none Hcb.out).trans (Hst1.out.trans ⟨hcw.mono (fun k e => by subst e; exact Own.blocks_of hlr), fun k hk => (hb2 k hk).imp id (fun e => by omega)⟩)
    · exact ((Hcb.out.mono (S' := fun k => k = b ∨ own k = some .larr) (fun _ f => f.elim)).trans Hc1.out (fun x e => .inl e)).trans hcw (fun x e => by
        subst e
        exact ((role_back Hle1.out Hst1.out hlr).imp Or.inr (fun h => by omega)))

end Go.Proofs.Ytckioocahmbhkaa
