/- The reference's Sync and Crash. -/
import Derived.Test.YtckioocahmbhkaaR3
import Derived.StillTailTactics
namespace Go.Proofs.Ytckioocahmbhkaa
open Go Go.RowKit Go.Maps Go.MuLone

theorem RefF.rest {w : World} {own : Own} {b : Nat} {D : DS} {lv pv : Value} (h : RefF w own b D lv pv) : RefF (w.setCell ⟨b, 2, none⟩ (.slice none 0 0)) own b { D with pending := [] } lv (.slice none 0 0) := by
  have k : ∀ g r, own g = some r → r ≠ .str → ¬ g = b := fun g r e hr => not_b h.str e hr
  have hc : Chg (fun x => x = b) w (w.setCell ⟨b, 2, none⟩ (.slice none 0 0)) := chg1 _
  exact ⟨h.str, by rw [heap_setCell_same _ h.blk]; rfl, h.last.chg hc (fun g e => k g _ e (by simp)) (fun g i e => k g _ e (by simp)),
    ⟨[], rfl, ⟨World.ownsRow_nil _ _ _ _, fun g e => by simp [Value.ownBlock] at e⟩, fun i p hi => by simp at hi⟩, h.f0, h.f1, fun g hg => Nat.lt_of_lt_of_le (h.lt g hg) hc.size⟩

/-- What lies at a write that pends. -/
theorem PendAt.at {w : World} {own : Own} {pv : Value} {Q : List (Nat × List UInt8)} (h : PendAt w own pv Q) {k : Nat} {q : Nat × List UInt8} (hq : Q[k]? = some q) :
    ∃ pg pc gv cv, pv = .slice (some ⟨pg, 0, none⟩) Q.length pc ∧ w.cell? ⟨pg, k * 2, none⟩ = some (.int .i64 q.1) ∧ w.cell? ⟨pg, k * 2 + 1, none⟩ = some (.slice (some ⟨gv, 0, none⟩) q.2.length cv) ∧ own gv = some (.pend k) ∧ w.ownsRow 0 5 1 (.slice (some ⟨gv, 0, none⟩) q.2.length cv) q.2.length (bVs q.2) := by
  obtain ⟨vs, hvl, hpa, hpv⟩ := h
  have hlt := (List.getElem?_eq_some_iff.1 hq).1
  obtain ⟨_, pc, rfl, _, _, hpg⟩ := ownsRow_slice hpa.1
  obtain ⟨pg, rfl⟩ := hpg (by omega)
  obtain ⟨v, hv, gv, cv, rfl, ho, hr⟩ := hpv k q hq
  obtain ⟨e1, e2⟩ := pcells_get Q vs k q _ hq hv
  have hl := pcells_length Q vs hvl
  exact ⟨pg, pc, gv, cv, rfl, (hpa.1.cellAt (k * 2) (by omega)).trans e1, (hpa.1.cellAt (k * 2 + 1) (by omega)).trans e2, ho, hr⟩
theorem PendAt.form {w : World} {own : Own} {pv : Value} {Q : List (Nat × List UInt8)} (h : PendAt w own pv Q) : ∃ a c, pv = .slice a Q.length c := by
  obtain ⟨vs, hvl, hpa, hpv⟩ := h
  obtain ⟨a, c, e, _⟩ := ownsRow_slice hpa.1
  exact ⟨a, c, e⟩
theorem LastAt.form {w : World} {own : Own} {lv : Value} {L : List (List UInt8)} (h : LastAt w own lv L) : ∃ a c, lv = .slice a L.length c := by
  obtain ⟨vs, hvl, hpa, hpv⟩ := h
  obtain ⟨a, c, e, _⟩ := ownsRow_slice hpa.1
  exact ⟨a, c, e⟩

theorem torn4096 : (tornN 4096).toNat = 4096 := by unfold tornN; omega

set_option maxRecDepth 100000 in
set_option maxHeartbeats 4000000 in
theorem rs_loop {Q0 : Exit → Act → World → Prop} {s1 s2 s3 s5 s6 s7 s8 s9 s10 s11 s12 s13 s14 s15 s16 s17 s18 s19 s20 s21 s22 s23 s24 s25 s26 s27 s28 s29 s30 s31 s32 : Value} (w : World) (own : Own) (b : Nat) (D : DS) (lv pv : Value) (hF : RefF w own b D lv pv) (hok : D.ok) (hn : D.pending.length ≤ 1000000)
    (hexit : ∀ ⦃u4 u12 u13 u14 u15 u16 u17 u18 u19 u20 u21 u22 u23 u24 u25 u26 u27 u28 u29 : Value⦄ (w' : World), (∃ own' lv', RefF w' own' b (D.more (layAll D.lasting D.pending)) lv' pv ∧ Step w own w' own') → Q0 .normal ⟨List.toArray (.pointer (some ⟨b, 0, none⟩) :: s1 :: s2 :: s3 :: u4 :: s5 :: s6 :: s7 :: s8 :: s9 :: s10 :: s11 :: u12 :: u13 :: u14 :: u15 :: u16 :: u17 :: u18 :: u19 :: u20 :: u21 :: u22 :: u23 :: u24 :: u25 :: u26 :: u27 :: u28 :: u29 :: s30 :: s31 :: s32 :: []), []⟩ w') :
    Code.wp Try.prog (blk 0 Try.f43) Q0 ⟨List.toArray (.pointer (some ⟨b, 0, none⟩) :: s1 :: s2 :: s3 :: .int .i64 0 :: s5 :: s6 :: s7 :: s8 :: s9 :: s10 :: s11 :: s12 :: s13 :: s14 :: s15 :: s16 :: s17 :: s18 :: s19 :: s20 :: s21 :: s22 :: s23 :: s24 :: s25 :: s26 :: s27 :: s28 :: s29 :: s30 :: s31 :: s32 :: []), []⟩ w := by
  have HX := Lib.hid hexit
  have HF := Lib.hid hF
  have Hok := Lib.hid hok
  obtain ⟨pa, pc, rfl⟩ := hF.pend.form
  clear hexit hF hok
  conv => arg 2; whnf
  go_wp2_with fail
  go_loopg [4] D.pending.length (fun gm iv wr => ∃ (k : Nat) (own' : Own) (lv' : Value), k ≤ D.pending.length ∧ gm = D.pending.length - k ∧ iv = .int .i64 k ∧ RefF wr own' b (D.more (layAll D.lasting (D.pending.take k))) lv' (.slice pa D.pending.length pc) ∧ Step w own wr own')
  case atStart => exact ⟨0, own, lv, by omega, rfl, rfl, HF.out, Step.refl _ _⟩
  case round =>
    obtain ⟨k, own1, lv1, hk, hg, rfl, h1, hst⟩ := hrel
    obtain ⟨_, c2⟩ := h1.fields
    have Hg := Lib.hid hg
    have H1 := Lib.hid h1
    have Hst := Lib.hid hst
    clear hg hst
    by_cases hlt : k < D.pending.length
    · obtain ⟨q, hq⟩ : ∃ q, D.pending[k]? = some q := ⟨_, List.getElem?_eq_getElem hlt⟩
      obtain ⟨pg, pc', gv, cv, e, d1, d2, ho, hr⟩ := h1.pend.at (Q := D.pending) hq
      cases e
      have hqm := List.mem_of_getElem? hq
      have hql : q.2.length = 4096 := Hok.out.data q hqm
      have hq1 := Hok.out.no q hqm
      rw [hql] at d2 hr
      obtain ⟨s1, s2⟩ := row_sees hr
      obtain ⟨o1, o2⟩ := layAll_ok D.lasting (D.pending.take k) Hok.out.page Hok.out.len (fun q hq => Hok.out.data q (List.mem_of_mem_take hq)) (fun q hq => Hok.out.no q (List.mem_of_mem_take hq))
      have hsn := layAll_snoc D.lasting D.pending k q hq
      have O1 := Lib.hid o1
      have O2 := Lib.hid o2
      have S2 := Lib.hid s2
      have Ho := Lib.hid ho
      have Hql := Lib.hid hql
      have Hsn := Lib.hid hsn
      clear h1 hq hqm hql hr s2 o1 o2 hsn ho
      go_wp2_with fail
      refine (rlasts_any wr own1 b _ lv1 _ H1.out O1.out q.1 (by omega) (by have := O2.out; show (layAll D.lasting (D.pending.take k)).length ≤ _; omega) gv 0 cv q.2 Hql.out s1 S2.out (.inr ⟨k, Ho.out⟩) 4096).mono ?_
      rintro e w2 ⟨rfl, own2, lv2, hF2, _, hst2, _⟩
      have HF2 := Lib.hid hF2
      have Hst2 := Lib.hid hst2
      clear hF2 hst2
      go_wp2_with fail
      go_roundg (D.pending.length - (k + 1))
      case measure => have := Hg.out; omega
      case rel =>
        refine ⟨k + 1, own2, lv2, by omega, rfl, by go_num, ?_, Hst.out.trans Hst2.out⟩
        have := HF2.out
        rw [torn4096] at this
        rw [Hsn.out]; exact this
    · obtain rfl : k = D.pending.length := by omega
      have ht : D.pending.take D.pending.length = D.pending := List.take_length
      have HT := Lib.hid ht
      clear ht h1
      go_wp2_with fail
      have := H1.out
      rw [HT.out] at this
      exact HX.out _ ⟨own1, lv1, this, Hst.out⟩

set_option maxRecDepth 100000 in
theorem rsync_any (w : World) (own : Own) (b : Nat) (D : DS) (h : RefAt w own b D) (hok : D.ok) (hn : D.pending.length ≤ 1000000) :
    Calls Try.prog 43 #[.pointer (some ⟨b, 0, none⟩)] w fun e w' => e = .returned (.int .i64 D.sync.1) ∧ ∃ own', RefAt w' own' b D.sync.2 ∧ Step w own w' own' := by
  have hD := Lib.hid h
  have Hok := Lib.hid hok
  obtain ⟨_, h3, _, _, _, hfz⟩ := h.cells
  cases hoff : D.off with
  | true =>
    have he : Hid (D.sync = (123, D)) := Lib.hid (by unfold DS.sync; rw [hoff]; rfl)
    rw [hoff] at h3
    clear hoff h hok hfz
    go_enter Try.func43, Try.ntmps43
    go_wp2
    go_ret
    rw [he.out]
    exact ⟨rfl, own, hD.out, Step.refl _ _⟩
  | false =>
    have hf := Lib.hid (fails_any w own b D h hoff)
    rw [hoff] at h3
    cases hco : D.count.off with
    | true =>
      have he : Hid (D.sync = (123, D.count)) := Lib.hid (by unfold DS.sync; rw [hoff, hco]; rfl)
      have Hco := Lib.hid hco
      clear hoff h hok hfz hco
      go_enter Try.func43, Try.ntmps43
      go_wp2_with (go_at_call 55; refine hf.out.mono ?_; rw [Hco.out]; rintro e w2 ⟨rfl, h2, hc2⟩)
      go_ret
      rw [he.out]
      exact ⟨rfl, own, h2, Step.of_b hD.out.str hc2⟩
    | false =>
      have he : Hid (D.sync = (0, { D.count with lasting := layAll D.lasting D.pending, pending := [] })) := Lib.hid (by unfold DS.sync; rw [hoff, hco]; rfl)
      have Hco := Lib.hid hco
      clear hoff h hok hfz hco
      go_enter Try.func43, Try.ntmps43
      go_upto_block 0 with (go_at_call 55; refine hf.out.mono ?_; rw [Hco.out]; rintro e w2 ⟨rfl, h2, hc2⟩)
      obtain ⟨lv, pv, hF2⟩ := h2
      refine rs_loop w2 own b D.count lv pv hF2 ⟨Hok.out.page, Hok.out.data, Hok.out.no, Hok.out.len⟩ hn ?_
      intro u4 u12 u13 u14 u15 u16 u17 u18 u19 u20 u21 u22 u23 u24 u25 u26 u27 u28 u29 w3 h3'
      obtain ⟨own3, lv3, hF3, hst3⟩ := h3'
      have hfz3 : w3.frozen? ⟨b, 2, none⟩ = false := by simp [World.frozen?, hF3.blk]
      obtain ⟨_, c2⟩ := hF3.fields
      have HF3 := Lib.hid hF3
      have Hst3 := Lib.hid hst3
      have Hc2 := Lib.hid hc2
      clear hF3 hst3 hc2 hF2
      go_wp2
      go_ret
      rw [he.out]
      exact ⟨rfl, own3, ⟨_, _, HF3.out.rest⟩, ((Step.of_b hD.out.str Hc2.out).trans Hst3.out).trans (Step.of_b HF3.out.str (chg1 _))⟩

/-- Fates at any place that isn't the disk's. -/
def FatesO (w : World) (own : Own) (v : Value) (fs : List (Int × Int)) : Prop :=
  ∃ a cap, v = .slice a fs.length cap ∧ fs.length ≤ reach ∧ (0 < fs.length → ∃ g o, a = some ⟨g, o, none⟩ ∧ ¬ own.blocks g ∧ ∀ (i : Nat) (f : Int × Int), fs[i]? = some f → w.cell? ⟨g, o + i * 2, none⟩ = some (.int .i64 f.1) ∧ w.cell? ⟨g, o + i * 2 + 1, none⟩ = some (.int .i64 f.2))

set_option maxRecDepth 100000 in
set_option maxHeartbeats 8000000 in
theorem rc_loop {Q0 : Exit → Act → World → Prop} {s2 s3 s5 s6 s7 s8 s9 s10 s11 s12 s13 s14 s15 s16 s17 s18 s19 s20 s21 s22 s23 s24 s25 s26 s27 s28 s29 s30 s31 s32 s33 s34 s35 s36 s37 s38 s39 s40 s41 s42 s43 s44 s45 s46 s47 s48 s49 s50 s51 s52 s53 s54 s55 s56 s57 s58 s59 s60 : Value} (w : World) (own : Own) (b : Nat) (D : DS) (lv pv : Value) (hF : RefF w own b D lv pv) (hok : D.ok) (hn : D.pending.length ≤ 1000000) (fa : Option Addr) (fc : Nat) (fs : List (Int × Int)) (hfs : FatesO w own (.slice fa fs.length fc) fs)
    (hexit : ∀ ⦃u4 u5 u6 u7 u8 u9 u10 u11 u12 u13 u14 u15 u16 u17 u18 u19 u20 u21 u22 u23 u24 u25 u26 u27 u28 u29 u30 u31 u32 u33 u34 u35 u36 u37 u38 u39 u40 u41 u42 u43 u44 u45 u46 u47 u48 u49 u50 u51 : Value⦄ (w' : World), (∃ own' lv', RefF w' own' b (D.more (crashAll D.lasting D.pending fs)) lv' pv ∧ Step w own w' own') → Q0 .normal ⟨List.toArray (.pointer (some ⟨b, 0, none⟩) :: .slice fa fs.length fc :: s2 :: s3 :: u4 :: u5 :: u6 :: u7 :: u8 :: u9 :: u10 :: u11 :: u12 :: u13 :: u14 :: u15 :: u16 :: u17 :: u18 :: u19 :: u20 :: u21 :: u22 :: u23 :: u24 :: u25 :: u26 :: u27 :: u28 :: u29 :: u30 :: u31 :: u32 :: u33 :: u34 :: u35 :: u36 :: u37 :: u38 :: u39 :: u40 :: u41 :: u42 :: u43 :: u44 :: u45 :: u46 :: u47 :: u48 :: u49 :: u50 :: u51 :: s52 :: s53 :: s54 :: s55 :: s56 :: s57 :: s58 :: s59 :: s60 :: []), []⟩ w') :
    Code.wp Try.prog (blk 0 Try.f57) Q0 ⟨List.toArray (.pointer (some ⟨b, 0, none⟩) :: .slice fa fs.length fc :: s2 :: s3 :: .int .i64 0 :: s5 :: s6 :: s7 :: s8 :: s9 :: s10 :: s11 :: s12 :: s13 :: s14 :: s15 :: s16 :: s17 :: s18 :: s19 :: s20 :: s21 :: s22 :: s23 :: s24 :: s25 :: s26 :: s27 :: s28 :: s29 :: s30 :: s31 :: s32 :: s33 :: s34 :: s35 :: s36 :: s37 :: s38 :: s39 :: s40 :: s41 :: s42 :: s43 :: s44 :: s45 :: s46 :: s47 :: s48 :: s49 :: s50 :: s51 :: s52 :: s53 :: s54 :: s55 :: s56 :: s57 :: s58 :: s59 :: s60 :: []), []⟩ w := by
  have HX := Lib.hid hexit
  have HF := Lib.hid hF
  have Hok := Lib.hid hok
  obtain ⟨fa', fc', he, hfl, hfc⟩ := hfs
  cases he
  have HFc := Lib.hid hfc
  unfold reach at hfl
  obtain ⟨pa, pc, rfl⟩ := hF.pend.form
  clear hexit hF hok hfc
  conv => arg 2; whnf
  go_wp2_with fail
  go_loopg [4] D.pending.length (fun gm iv wr => ∃ (k : Nat) (own' : Own) (lv' : Value), k ≤ D.pending.length ∧ gm = D.pending.length - k ∧ iv = .int .i64 k ∧ RefF wr own' b (D.more (crashAll D.lasting (D.pending.take k) fs)) lv' (.slice pa D.pending.length pc) ∧ Step w own wr own')
  case atStart => exact ⟨0, own, lv, by omega, rfl, rfl, HF.out, Step.refl _ _⟩
  case round =>
    obtain ⟨k, own1, lv1, hk, hg, rfl, h1, hst⟩ := hrel
    obtain ⟨_, c2⟩ := h1.fields
    have Hg := Lib.hid hg
    have H1 := Lib.hid h1
    have Hst := Lib.hid hst
    clear hg hst
    by_cases hlt : k < D.pending.length
    · by_cases hkf : k < fs.length
      · obtain ⟨q, hq⟩ : ∃ q, D.pending[k]? = some q := ⟨_, List.getElem?_eq_getElem hlt⟩
        obtain ⟨f, hfk⟩ : ∃ f, fs[k]? = some f := ⟨_, List.getElem?_eq_getElem hkf⟩
        obtain ⟨fg, fo, rfl, hno, hcf⟩ := HFc.out (by omega)
        obtain ⟨f1, f2⟩ := hcf k f hfk
        have hfg : fg < w.heap.size := World.block_lt_of_cell? _ _ f1
        obtain ⟨kf1, kf2, kf3⟩ := Hst.out.keep hno hfg
        have g1 : wr.cell? ⟨fg, fo + k * 2, none⟩ = some (.int .i64 f.1) := (World.cell?_of_block (w := w) kf3).trans f1
        have g2 : wr.cell? ⟨fg, fo + k * 2 + 1, none⟩ = some (.int .i64 f.2) := (World.cell?_of_block (w := w) kf3).trans f2
        obtain ⟨pg, pc', gv, cv, e, d1, d2, ho, hr⟩ := h1.pend.at (Q := D.pending) hq
        cases e
        have hqm := List.mem_of_getElem? hq
        have hql : q.2.length = 4096 := Hok.out.data q hqm
        have hq1 := Hok.out.no q hqm
        rw [hql] at d2 hr
        obtain ⟨s1, s2⟩ := row_sees hr
        obtain ⟨o1, o2⟩ := crashAll_ok D.lasting (D.pending.take k) fs Hok.out.page Hok.out.len (fun q hq => Hok.out.data q (List.mem_of_mem_take hq)) (fun q hq => Hok.out.no q (List.mem_of_mem_take hq))
        have hsn := crashAll_snoc D.lasting D.pending fs k q f hq hfk
        have O1 := Lib.hid o1
        have O2 := Lib.hid o2
        have S2 := Lib.hid s2
        have Ho := Lib.hid ho
        have Hql := Lib.hid hql
        have Hsn := Lib.hid hsn
        have hk0 : (0 : Int) ≤ (k : Int) := Int.natCast_nonneg _
        have hk1 : (k : Int) < (D.pending.length : Int) := by omega
        have hk2 : (k : Int) < (fs.length : Int) := by omega
        clear h1 hq hqm hql hr s2 o1 o2 hsn ho hfk hcf f1 f2 kf1 kf2 kf3
        by_cases ht1 : f.1 = 1
        · have b1 : (f.1 == 1) = true := by rw [beq_iff_eq]; exact ht1
          have HT := Lib.hid ht1
          clear ht1
          go_wp2_with fail
          refine (rlasts_any wr own1 b _ lv1 _ H1.out O1.out q.1 (by omega) (by have := O2.out; show (crashAll D.lasting (D.pending.take k) fs).length ≤ _; omega) gv 0 cv q.2 Hql.out s1 S2.out (.inr ⟨k, Ho.out⟩) 4096).mono ?_
          rintro e w2 ⟨rfl, own2, lv2, hF2, _, hst2, _⟩
          have HF2 := Lib.hid hF2
          have Hst2 := Lib.hid hst2
          clear hF2 hst2
          go_wp2_with fail
          go_roundg (D.pending.length - (k + 1))
          case measure => have := Hg.out; omega
          case rel =>
            refine ⟨k + 1, own2, lv2, by omega, rfl, by go_num, ?_, Hst.out.trans Hst2.out⟩
            have := HF2.out
            rw [torn4096] at this
            rw [Hsn.out]
            unfold fateL; rw [if_pos HT.out]; exact this
        · have b1 : (f.1 == 1) = false := by rw [beq_eq_false_iff_ne]; exact ht1
          by_cases ht2 : f.1 = 2
          · have b2 : (f.1 == 2) = true := by rw [beq_iff_eq]; exact ht2
            have HT := Lib.hid (And.intro ht1 ht2)
            clear ht1 ht2
            go_wp2_with fail
            have H1d : Hid (RefF wr.drew own1 b (D.more (crashAll D.lasting (D.pending.take k) fs)) lv1 (.slice (some ⟨pg, 0, none⟩) D.pending.length pc)) := Lib.hid (H1.out.chg (Chg.refl (fun _ => False) wr).drew (fun _ _ f => f))
            have S2d : Hid (∀ (j : Nat) (x : UInt8), q.2[j]? = some x → wr.drew.cell? ⟨gv, 0 + j, none⟩ = some (bV x)) := S2
            go_still_tail 13, (by kernel_rfl)
            change wpList _ _ _ _ _ wr.drew
            go_wp2_with fail
            refine (rlasts_any wr.drew own1 b _ lv1 _ H1d.out O1.out q.1 (by omega) (by have := O2.out; show (crashAll D.lasting (D.pending.take k) fs).length ≤ _; omega) gv 0 cv q.2 Hql.out s1 S2d.out (.inr ⟨k, Ho.out⟩) f.2).mono ?_
            rintro e w2 ⟨rfl, own2, lv2, hF2, _, hst2, _⟩
            have HF2 := Lib.hid hF2
            have Hst2 := Lib.hid ((Step.of_none (own := own1) (Chg.refl (fun _ => False) wr).drew).trans hst2)
            clear hF2 hst2
            go_wp2_with fail
            go_roundg (D.pending.length - (k + 1))
            case measure => have := Hg.out; omega
            case rel =>
              refine ⟨k + 1, own2, lv2, by omega, rfl, by go_num, ?_, Hst.out.trans Hst2.out⟩
              rw [Hsn.out]
              unfold fateL; rw [if_neg HT.out.1, if_pos HT.out.2]; exact HF2.out
          · have b2 : (f.1 == 2) = false := by rw [beq_eq_false_iff_ne]; exact ht2
            have HT := Lib.hid (And.intro ht1 ht2)
            clear ht1 ht2
            go_wp2_with fail
            go_roundg (D.pending.length - (k + 1))
            case measure => have := Hg.out; omega
            case rel =>
              refine ⟨k + 1, own1, lv1, by omega, rfl, by go_num, ?_, Hst.out⟩
              rw [Hsn.out]
              unfold fateL; rw [if_neg HT.out.1, if_neg HT.out.2]; exact H1.out
      · have ht := crashAll_more D.lasting D.pending fs k (by omega)
        have HT := Lib.hid ht
        clear ht h1
        go_wp2_with fail
        have := H1.out
        rw [HT.out] at this
        exact HX.out _ ⟨own1, lv1, this, Hst.out⟩
    · obtain rfl : k = D.pending.length := by omega
      have ht : D.pending.take D.pending.length = D.pending := List.take_length
      have HT := Lib.hid ht
      clear ht h1
      go_wp2_with fail
      have := H1.out
      rw [HT.out] at this
      exact HX.out _ ⟨own1, lv1, this, Hst.out⟩

set_option maxRecDepth 100000 in
theorem rcrash_any (w : World) (own : Own) (b : Nat) (D : DS) (h : RefAt w own b D) (hok : D.ok) (hn : D.pending.length ≤ 1000000) (v : Value) (fs : List (Int × Int)) (hfs : FatesO w own v fs) :
    Calls Try.prog 57 #[.pointer (some ⟨b, 0, none⟩), v] w fun e w' => e = .returned (.tuple #[]) ∧ ∃ own', RefAt w' own' b (D.crash fs) ∧ Step w own w' own' := by
  obtain ⟨lv, pv, hF⟩ := h
  obtain ⟨fa, fc, rfl, hrest⟩ := hfs
  have HFO : Hid (FatesO w own (.slice fa fs.length fc) fs) := Lib.hid ⟨fa, fc, rfl, hrest⟩
  have HF := Lib.hid hF
  have Hok := Lib.hid hok
  clear hF hrest hok
  go_enter Try.func57, Try.ntmps57
  go_upto_block 0 with fail
  refine rc_loop w own b D lv pv HF.out Hok.out hn fa fc fs HFO.out ?_
  intro u4 u5 u6 u7 u8 u9 u10 u11 u12 u13 u14 u15 u16 u17 u18 u19 u20 u21 u22 u23 u24 u25 u26 u27 u28 u29 u30 u31 u32 u33 u34 u35 u36 u37 u38 u39 u40 u41 u42 u43 u44 u45 u46 u47 u48 u49 u50 u51 w3 h3
  obtain ⟨own3, lv3, hF3, hst3⟩ := h3
  have hz : ∀ o, w3.frozen? ⟨b, o, none⟩ = false := fun o => by simp [World.frozen?, hF3.blk]
  have hz2 := hz 2
  have hz3 := hz 3
  have hz4 := hz 4
  obtain ⟨_, c2⟩ := hF3.fields
  obtain ⟨_, c3, c4, _⟩ := RefAt.cells ⟨_, _, hF3⟩
  have HF3 := Lib.hid hF3
  have Hst3 := Lib.hid hst3
  clear hF3 hst3 hz
  go_wp2
  go_end0
  refine ⟨rfl, own3, ?_, (Hst3.out.trans (Step.of_b HF3.out.str (chgS (chgS (chg1 _) _ _) _ _)))⟩
  have r1 : RefAt (w3.setCell ⟨b, 2, none⟩ (.slice none 0 0)) own3 b { D with lasting := crashAll D.lasting D.pending fs, pending := [] } := ⟨_, _, HF3.out.rest⟩
  have r2 := r1.set (D' := { D with lasting := crashAll D.lasting D.pending fs, pending := [], off := false }) 3 (.bool false) (fun _ _ => rfl) rfl rfl r1.fuse
  exact r2.set (D' := D.crash fs) 4 (.int .i64 0) (fun _ _ => rfl) rfl rfl ⟨by show (0 : Int) ≤ 0; omega, by show (0 : Int) ≤ _; omega⟩

end Go.Proofs.Ytckioocahmbhkaa
