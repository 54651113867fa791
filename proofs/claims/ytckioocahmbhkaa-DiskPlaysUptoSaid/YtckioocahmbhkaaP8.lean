/- Walks: the pair's crash. -/
import Derived.Test.YtckioocahmbhkaaP7
namespace Go.Proofs.Ytckioocahmbhkaa
open Go Go.RowKit Go.Maps Go.MuLone

theorem FatesA.chg {w w' : World} {v : Value} {fs : List (Int × Int)} {S : Nat → Prop} (h : FatesA w v fs) (hc : Chg S w w') (hs : ∀ ad n c, v = .slice (some ad) n c → 0 < fs.length → ¬ S ad.block) : FatesA w' v fs := by
  obtain ⟨a, cap, rfl, h1, h2⟩ := h
  refine ⟨a, cap, rfl, h1, fun hp => ?_⟩
  obtain ⟨g, o, rfl, hc2⟩ := h2 hp
  have hn := hs _ _ _ rfl hp
  refine ⟨g, o, rfl, fun i x hx => ?_⟩
  obtain ⟨k1, k2⟩ := hc2 i x hx
  exact ⟨(cell_chg hc (World.block_lt_of_cell? _ _ k1) hn).trans k1, (cell_chg hc (World.block_lt_of_cell? _ _ k2) hn).trans k2⟩

/-- Fates that are not the pair's. -/
structure SrcF (w : World) (own rown : Own) (v : Value) (fs : List (Int × Int)) : Prop where
  sees : FatesA w v fs
  far : ∀ ad n c, v = .slice (some ad) n c → 0 < fs.length → ¬ own.blocks ad.block ∧ ¬ rown.blocks ad.block ∧ ad.block < w.heap.size
theorem SrcF.chg0 {w w' : World} {own rown : Own} {v : Value} {fs : List (Int × Int)} (h : SrcF w own rown v fs) (hc : Chg (fun _ => False) w w') : SrcF w' own rown v fs :=
  ⟨h.sees.chg hc (fun _ _ _ _ _ f => f), fun ad n c e hp => ⟨(h.far ad n c e hp).1, (h.far ad n c e hp).2.1, Nat.lt_of_lt_of_le (h.far ad n c e hp).2.2 hc.size⟩⟩

theorem seesF_new' {w0 w w' : World} {own : Own} {b : Nat} {D : DS} (hS : St w0 w own b D) {a : Option Addr} {cap : Nat} {fs : List (Int × Int)} (hn : New w w' 49 2 (.slice a fs.length cap) fs.length (fcells fs)) (hl : fs.length * 16 ≤ 140737488351232) :
    SeesF w' own (.slice a fs.length cap) fs := by
  refine ⟨a, cap, rfl, by unfold reach; omega, fun hp => ?_⟩
  obtain ⟨_, _, e, _, _, hg⟩ := ownsRow_slice hn.1
  cases e
  obtain ⟨g, rfl⟩ := hg hp
  refine ⟨g, rfl, hS.free (hn.2 g rfl), fun i f hf => ?_⟩
  obtain ⟨e1, e2⟩ := fcells_get fs i f hf
  have hi := (List.getElem?_eq_some_iff.1 hf).1
  have hl2 := fcells_length fs
  exact ⟨(hn.1.cellAt (i * 2) (by omega)).trans e1, (hn.1.cellAt (i * 2 + 1) (by omega)).trans e2⟩

set_option maxRecDepth 100000 in
set_option maxHeartbeats 4000000 in
theorem pcrash_any {w0 w : World} {pb b rb gl n cap : Nat} {own rown : Own} {D : DS} (h : PairF w0 w pb own b rown rb gl n cap D D) (hok : D.ok) (hpn : D.pending.length ≤ 1000000) (v : Value) (fs : List (Int × Int)) (hp : SrcF w own rown v fs) :
    Calls Try.prog 45 #[.pointer (some ⟨pb, 0, none⟩), v] w fun e w' => e = .returned (.tuple #[]) ∧ ∃ own' rown', PairF w0 w' pb own' b rown' rb gl n cap (D.crash fs) (D.crash fs) := by
  have H := Lib.hid h
  have Hok := Lib.hid hok
  have HP := Lib.hid hp
  obtain ⟨a, c, rfl, hfl, _⟩ := hp.sees
  clear h hok hp
  go_enter Try.func45, Try.ntmps45
  go_wp2_with (go_at_call 22; refine (fates_any _ _ _ HP.out.sees).mono ?_; rintro e w1 ⟨fa, fc, rfl, n1, hc1⟩; have H1 := Lib.hid (H.out.chg0 hc1); have HP1 := Lib.hid (HP.out.chg0 hc1); have N1 := Lib.hid n1; have SF1 := Lib.hid (seesF_new' H.out.st n1 hfl); obtain ⟨c0, c1, _, _⟩ := H1.out.cells; have F1 : Hid (∀ g, fa = some ⟨g, 0, none⟩ → w.heap.size ≤ g) := Lib.hid (fun g e => n1.2 g (by rw [e]; rfl)); clear n1 hc1)
  refine (crash_st H1.out.st Hok.out _ fs SF1.out rfl).mono ?_
  rintro e w2 ⟨rfl, own2, s2, t2⟩
  have H2 := Lib.hid (H1.out.stepD s2 t2)
  have HP2 : Hid (SrcF w2 own2 rown (.slice a fs.length c) fs) := Lib.hid ⟨HP1.out.sees.chg t2.chg (fun ad n c e hp => (HP1.out.far ad n c e hp).1), fun ad n c e hp => by
    have := HP1.out.far ad n c e hp
    refine ⟨fun e2 => ?_, this.2.1, Nat.lt_of_lt_of_le this.2.2 t2.chg.size⟩
    rcases t2.new _ e2 with e3 | e3
    · exact this.1 e3
    · omega⟩
  have R2 : Hid (w2.ownsRow 0 49 2 (.slice fa fs.length fc) fs.length (fcells fs)) := Lib.hid (ownsRow_chg N1.out.1 t2.chg (fun g e => H.out.st.free (N1.out.2 g e)))
  have HM : Hid (∀ g, fa = some ⟨g, 0, none⟩ → ¬ own2.blocks g ∧ ¬ rown.blocks g ∧ g ≠ pb ∧ g ≠ gl ∧ w0.heap.size ≤ g ∧ ∀ ad n c', (.slice a fs.length c : Value) = .slice (some ad) n c' → 0 < fs.length → ad.block ≠ g) := Lib.hid fun g e => by
    have hge := F1.out g e
    have hlt : g < w1.heap.size := by
      rcases N1.out.1.2 with ⟨e1, _⟩ | ⟨g', _, _, e1, _, hh, _⟩
      · rw [e] at e1; simp at e1
      · rw [e] at e1; simp only [Value.slice.injEq, Option.some.injEq, Addr.mk.injEq] at e1; rw [e1.1.1]; exact heap_lt hh
    have := H.out.plt
    have := H.out.llt
    have := H.out.st.below.size
    refine ⟨fun e2 => ?_, H.out.rs.free hge, by omega, by omega, by omega, fun ad n c' e hp => ?_⟩
    · rcases t2.new _ e2 with e3 | e3
      · exact H.out.st.free hge e3
      · omega
    · have := (HP.out.far ad n c' e hp).2.2; omega
  clear s2 t2 H HP H1 HP1 N1 SF1 F1 c0 c1
  go_wp2_with fail
  go_loopg [5] fs.length (fun gm iv wr => ∃ (k : Nat) (es : List Value), k ≤ fs.length ∧ gm = fs.length - k ∧ iv = .int .i64 k ∧ wr.ownsRow 0 49 2 (.slice fa fs.length fc) fs.length es ∧ PairF w0 wr pb own2 b rown rb gl n cap (D.crash fs) D ∧ SrcF wr own2 rown (.slice a fs.length c) fs)
  case atStart => exact ⟨0, _, by omega, rfl, rfl, R2.out, H2.out, HP2.out⟩
  case round =>
    obtain ⟨k, es, hk, hg, rfl, hr, hP, hQ⟩ := hrel
    have Hg := Lib.hid hg
    have HPr := Lib.hid hP
    have HQr := Lib.hid hQ
    have HR := Lib.hid hr
    obtain ⟨c0, c1, _, _⟩ := hP.cells
    clear hg hP hQ hr
    by_cases hlt : k < fs.length
    · obtain ⟨_, _, e, _, _, hg⟩ := ownsRow_slice HR.out
      cases e
      obtain ⟨g, rfl⟩ := hg (by omega)
      have hm := Lib.hid (HM.out g rfl)
      have hl : es.length = fs.length * 2 := HR.out.1
      have k0 := HR.out.cellAt (k * 2) (by omega)
      have k1 := HR.out.cellAt (k * 2 + 1) (by omega)
      obtain ⟨u0, k0'⟩ : ∃ u, wr.cell? ⟨g, k * 2, none⟩ = some u := ⟨_, by rw [k0]; exact List.getElem?_eq_getElem (by omega)⟩
      obtain ⟨u1, k1'⟩ : ∃ u, wr.cell? ⟨g, k * 2 + 1, none⟩ = some u := ⟨_, by rw [k1]; exact List.getElem?_eq_getElem (by omega)⟩
      have f0 : wr.frozen? ⟨g, k * 2, none⟩ = false := HR.out.frozenAt (k * 2)
      have f1 : wr.frozen? ⟨g, k * 2 + 1, none⟩ = false := HR.out.frozenAt (k * 2 + 1)
      clear k0 k1 hl hg
      go_wp2_with fail
      go_roundg (fs.length - (k + 1))
      case measure => have := Hg.out; omega
      case rel =>
        have hl : es.length = fs.length * 2 := HR.out.1
        have hc : Chg (fun x => x = g) wr ((wr.setCell ⟨g, k * 2, none⟩ (.int .i64 1)).setCell ⟨g, k * 2 + 1, none⟩ (.int .i64 0)) := ((Chg.refl (fun x => x = g) wr).setCell (p := ⟨g, k * 2, none⟩) (.inl rfl) _).setCell (p := ⟨g, k * 2 + 1, none⟩) (.inl rfl) _
        refine ⟨k + 1, _, by omega, rfl, by go_num, ownsRow_setCell (ownsRow_setCell HR.out (k * 2) (.int .i64 1) (by omega)) (k * 2 + 1) (.int .i64 0) (by rw [List.length_set]; omega), HPr.out.other hc (fun x e => by subst e; exact ⟨hm.out.1, hm.out.2.1, hm.out.2.2.1, hm.out.2.2.2.1, hm.out.2.2.2.2.1⟩), HQr.out.sees.chg hc (fun ad n c e hp => hm.out.2.2.2.2.2 ad n c e hp), fun ad n c e hp => ?_⟩
        have := HQr.out.far ad n c e hp
        exact ⟨this.1, this.2.1, Nat.lt_of_lt_of_le this.2.2 hc.size⟩
    · have HFO : Hid (FatesO wr rown (.slice a fs.length c) fs) := Lib.hid (by
        obtain ⟨a', c', e, h1, h2⟩ := HQr.out.sees
        cases e
        refine ⟨_, _, rfl, by unfold reach; omega, fun hp => ?_⟩
        obtain ⟨g, o, rfl, hc⟩ := h2 hp
        exact ⟨g, o, rfl, (HQr.out.far _ _ _ rfl hp).2.1, hc⟩)
      go_wp2_with fail
      refine (rcrash_any wr rown rb D HPr.out.rs.disk Hok.out hpn _ fs HFO.out).mono ?_
      rintro e w5 ⟨rfl, rown5, s5, t5⟩
      have P5 := Lib.hid (HPr.out.stepR (HPr.out.rs.step s5 t5) t5)
      clear s5 t5
      go_wp2_with fail
      go_end0
      exact ⟨rfl, _, _, P5.out⟩
end Go.Proofs.Ytckioocahmbhkaa
