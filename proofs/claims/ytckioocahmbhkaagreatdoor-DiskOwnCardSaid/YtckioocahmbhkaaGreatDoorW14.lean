/- Walks: Pending. -/
import Derived.Test.YtckioocahmbhkaaGreatDoorW13
import Derived.Outline
namespace Go.Proofs.YtckioocahmbhkaaGreatDoor
open Go Go.RowKit Go.Maps Go.MuLone

/-- A list of writes in memory: each datum in a block of its own; rho tells the blocks: the list's 0, the i-th datum's i + 1. -/
def Writes (w : World) (B : Nat) (rho : Nat → Option Nat) (v : Value) (qs : List (Nat × List UInt8)) : Prop :=
  ∃ vs : List Value, vs.length = qs.length ∧ w.ownsRow 0 78 2 v qs.length (pcells qs vs) ∧ (∀ g, v.ownBlock = some g → B ≤ g ∧ rho g = some 0) ∧
    (∀ (i : Nat) (q : Nat × List UInt8), qs[i]? = some q → ∃ g c, vs[i]? = some (.slice (some ⟨g, 0, none⟩) q.2.length c) ∧ B ≤ g ∧ rho g = some (i + 1) ∧ w.ownsRow 0 5 1 (.slice (some ⟨g, 0, none⟩) q.2.length c) q.2.length (bVs q.2)) ∧
    ∀ g, rho g ≠ none → B ≤ g ∧ g < w.heap.size

theorem Writes.nil (w : World) (B : Nat) : Writes w B (fun _ => none) (.slice none 0 0) [] :=
  ⟨[], rfl, World.ownsRow_nil _ _ _ _, fun g e => by simp [Value.ownBlock] at e, fun i q hi => by simp at hi, fun g e => absurd rfl e⟩

theorem Writes.chg {w w' : World} {B : Nat} {rho : Nat → Option Nat} {v : Value} {qs : List (Nat × List UInt8)} {S : Nat → Prop} (h : Writes w B rho v qs) (hc : Chg S w w') (hs : ∀ g, rho g ≠ none → ¬ S g) : Writes w' B rho v qs := by
  obtain ⟨vs, h1, h2, h3, h4, h5⟩ := h
  refine ⟨vs, h1, ownsRow_chg h2 hc (fun g e => hs g (by rw [(h3 g e).2]; simp)), h3, fun i q hi => ?_, fun g e => ⟨(h5 g e).1, Nat.lt_of_lt_of_le (h5 g e).2 hc.size⟩⟩
  obtain ⟨g, c, k1, k2, k3, k4⟩ := h4 i q hi
  exact ⟨g, c, k1, k2, k3, ownsRow_chg k4 hc (fun g' e => by cases e; exact hs g (by rw [k3]; simp))⟩

/-- One write more. -/
theorem Writes.snoc {w w3 w4 : World} {B : Nat} {rho : Nat → Option Nat} {v : Value} {qs : List (Nat × List UInt8)} {vs : List Value} (h1 : vs.length = qs.length) (h3 : ∀ g, v.ownBlock = some g → B ≤ g ∧ rho g = some 0)
    (h4 : ∀ (i : Nat) (q : Nat × List UInt8), qs[i]? = some q → ∃ g c, vs[i]? = some (.slice (some ⟨g, 0, none⟩) q.2.length c) ∧ B ≤ g ∧ rho g = some (i + 1) ∧ w.ownsRow 0 5 1 (.slice (some ⟨g, 0, none⟩) q.2.length c) q.2.length (bVs q.2))
    (h5 : ∀ g, rho g ≠ none → B ≤ g ∧ g < w.heap.size) (hB : B ≤ w.heap.size) {g1 c1 gg cg i : Nat} {p : List UInt8}
    (hc3 : Chg (fun _ => False) w w3) (hge : w.heap.size ≤ g1) (hrow : w3.ownsRow 0 5 1 (.slice (some ⟨g1, 0, none⟩) p.length c1) p.length (bVs p)) {o : Obj}
    (hown' : w4.ownsRow 0 78 2 (.slice (some ⟨gg, 0, none⟩) (qs.length + 1) cg) (qs.length + 1) (pcells qs vs ++ [.int .i64 i, .slice (some ⟨g1, 0, none⟩) p.length c1]))
    (hgrow : (w3.alloc o).grownBy w4 v.ownBlock) (hat : v.ownBlock = some gg ∨ gg = w3.heap.size + 1) :
    ∃ rho', Writes w4 B rho' (.slice (some ⟨gg, 0, none⟩) (qs.length + 1) cg) (qs ++ [(i, p)]) := by
  have hlt1 : g1 < w3.heap.size := by
    rcases hrow.2 with ⟨h0, _⟩ | ⟨g', _, _, h0, _, hh, _⟩
    · cases h0
    · cases h0; exact heap_lt hh
  have hltg : gg < w4.heap.size := by
    rcases hown'.2 with ⟨h0, _⟩ | ⟨g', _, _, h0, _, hh, _⟩
    · cases h0
    · cases h0; exact heap_lt hh
  have hsz4 : w3.heap.size + 1 ≤ w4.heap.size := by have := hgrow.size; rw [alloc_size1] at this; exact this
  have hv1 : v.ownBlock ≠ some g1 := fun e => by have := h5 g1 (by rw [(h3 g1 e).2]; simp); omega
  have hgg1 : gg ≠ g1 := fun e => by
    subst e
    rcases hat with e | e
    · exact hv1 e
    · omega
  have hc4 : Chg (fun k => v.ownBlock = some k) w w4 := (((hc3.mono (fun _ f => f.elim)).alloc _).grown hgrow (fun k e => .inl e))
  refine ⟨fun k => if k = gg then some 0 else if k = g1 then some (qs.length + 1) else rho k, vs ++ [.slice (some ⟨g1, 0, none⟩) p.length c1], by simp [h1], ?_, ?_, ?_, ?_⟩
  · rw [pcells_snoc _ _ h1, List.length_append]; exact hown'
  · intro g e
    cases e
    refine ⟨?_, by simp⟩
    rcases hat with e | e
    · exact (h3 _ e).1
    · have := hc3.size; show B ≤ gg; omega
  · intro j q hj
    by_cases hlt : j < qs.length
    · have hj' : qs[j]? = some q := by simpa [List.getElem?_append, hlt] using hj
      obtain ⟨g, c, k1, k2, k3, k4⟩ := h4 j q hj'
      have hgl := h5 g (by rw [k3]; simp)
      have hne1 : g ≠ g1 := by omega
      have hneg : g ≠ gg := fun e => by
        subst e
        rcases hat with e | e
        · have := (h3 _ e).2; rw [k3] at this; cases this
        · have := hc3.size; omega
      refine ⟨g, c, by rw [List.getElem?_append_left (by omega)]; exact k1, k2, by simp [hne1, hneg, k3], ownsRow_chg k4 hc4 (fun g' e e2 => ?_)⟩
      cases e
      have := (h3 _ e2).2; rw [k3] at this; cases this
    · have hj' : j = qs.length ∧ (i, p) = q := by
        have := (List.getElem?_eq_some_iff.1 hj).1
        simp at this
        have e : j = qs.length := by omega
        subst e
        simpa using hj
      obtain ⟨rfl, rfl⟩ := hj'
      refine ⟨g1, c1, by rw [← h1]; simp, Nat.le_trans hB hge, by simp [Ne.symm hgg1], (hrow.alloc _).kept hgrow (.inr (fun e => hv1 e.symm))⟩
  · intro g e
    by_cases e1 : g = gg
    · subst e1
      refine ⟨?_, hltg⟩
      rcases hat with e | e
      · exact (h3 _ e).1
      · have := hc3.size; omega
    · by_cases e2 : g = g1
      · subst e2; exact ⟨Nat.le_trans hB hge, by omega⟩
      · simp [e1, e2] at e
        have := h5 g e
        have := hc3.size
        omega

set_option maxRecDepth 100000 in
set_option maxHeartbeats 1600000 in
theorem pending_any (w : World) (own : Own) (b : Nat) (D : DS) (h : DiskAt w own 0 b D) (hok : D.ok) (hn : D.pending.length < 1000000) :
    Calls Tryz.prog 12 #[.pointer (some ⟨b, 0, none⟩)] w fun e w' => ∃ a cap rho, e = .returned (.slice a D.pending.length cap) ∧ Writes w' w.heap.size rho (.slice a D.pending.length cap) D.pending ∧ DiskAt w' own 0 b D ∧ Chg (fun x => x = b) w w' := by
  have h1 := h.lock 0 1
  have hD1 := Lib.hid h1
  have Hok := Lib.hid hok
  obtain ⟨hs, hfz⟩ := h.lockCell
  have hbl0 : b < w.heap.size := h.blt
  obtain ⟨sema, lv, pv, m, hF⟩ := h1
  obtain ⟨_, c4, _⟩ := hF.fields
  obtain ⟨vs0, hvl, ⟨hpa, hpo⟩, hpv⟩ := hF.pend
  obtain ⟨pa, pc, rfl, hpnc, hpm, hpg⟩ := ownsRow_slice hpa
  obtain ⟨i1, hi', hz0, hz1, hz2⟩ := info_parts info79
  have Hvl := Lib.hid hvl
  have Hpv := Lib.hid hpv
  have Hpa := Lib.hid hpa
  have HF := Lib.hid hF
  have hsz : (w.setCell ⟨b, 0, none⟩ (.int .i32 1)).heap.size = w.heap.size := by simp [World.setCell]
  have Hsz := Lib.hid hsz
  obtain ⟨B, hB⟩ : ∃ B, B = w.heap.size := ⟨_, rfl⟩
  rw [← hB]
  have HB := Lib.hid hB
  clear h hok hF hvl hpv hpo hpa hsz hB
  unfold maxLen at hpm
  go_enter_defers Tryz.func12, Tryz.ntmps12
  go_wp2_with (go_at_call 21; refine (lock_free Tryz.muLib ⟨b, 0, none⟩ _ hs (hfz 0)).mono ?_; rintro e w' ⟨rfl, rfl⟩)
  go_loopw [3, 18] (fun v i wr => ∃ (k : Nat) (a : Option Addr) (cap : Nat) (rho : Nat → Option Nat), k ≤ D.pending.length ∧ i = .int .i64 k ∧ v = .slice a k cap ∧ Writes wr B rho (.slice a k cap) (D.pending.take k) ∧ B ≤ wr.heap.size ∧ Chg (fun _ => False) (w.setCell ⟨b, 0, none⟩ (.int .i32 1)) wr)
    (fun _ i _ => D.pending.length - (intOf i).toNat)
  case atStart => exact ⟨0, none, 0, _, Nat.zero_le _, rfl, rfl, Writes.nil _ _, by rw [HB.out, ← Hsz.out]; exact Nat.le_refl _, Chg.refl _ _⟩
  case round =>
    obtain ⟨k, a, cap, rho, hk, rfl, rfl, hW, hBl, hchg⟩ := hrel
    by_cases hlt : k < D.pending.length
    · obtain ⟨g, rfl⟩ := hpg (by omega)
      have hrow := ownsRow_chg Hpa.out hchg (fun _ _ f => f)
      obtain ⟨q, hq⟩ : ∃ q, D.pending[k]? = some q := ⟨_, List.getElem?_eq_getElem hlt⟩
      obtain ⟨v, hv, gv, cv, rfl, hrole, hbuf⟩ := Hpv.out k q hq
      obtain ⟨e1, e2⟩ := pcells_get D.pending vs0 k q _ hq hv
      have hlen2 := pcells_length D.pending vs0 Hvl.out
      have hqm := List.mem_of_getElem? hq
      have hql := Hok.out.data q hqm
      have hq1 := Hok.out.no q hqm
      have c1 : wr.cell? ⟨g, k * 2, none⟩ = some (.int .i64 q.1) := (hrow.cellAt (k * 2) (by omega)).trans e1
      have c2 : wr.cell? ⟨g, k * 2 + 1, none⟩ = some (.slice (some ⟨gv, 0, none⟩) q.2.length cv) := (hrow.cellAt (k * 2 + 1) (by omega)).trans e2
      obtain ⟨H, hH⟩ : ∃ H, H = wr.heap.size := ⟨_, rfl⟩
      have HH := Lib.hid hH
      have hS : Hid (Sees (wr.alloc (.cells #[.int .i64 q.1, .slice (some ⟨gv, 0, none⟩) q.2.length cv] 78)).drew (.slice (some ⟨gv, 0, none⟩) q.2.length cv) q.2) := by
        have hb2 := ownsRow_chg hbuf hchg (fun _ _ f => f)
        obtain ⟨s1, s2⟩ := row_sees (hb2.alloc (.cells #[.int .i64 q.1, .slice (some ⟨gv, 0, none⟩) q.2.length cv] 78))
        exact Lib.hid ⟨gv, 0, cv, rfl, s1, by rw [hql]; exact pl_reach, s2⟩
      have hne : Hid (q.2 ≠ []) := Lib.hid (fun e => by rw [e] at hql; simp at hql)
      have hlenk : (D.pending.take k).length = k := by rw [List.length_take]; omega
      have Hlenk := Lib.hid hlenk
      have Hq := Lib.hid hq
      have HW := Lib.hid hW
      clear hrow e1 e2 hlen2 hv hrole hbuf hqm hql hq hW hlenk hH
      go_wp2_with fail
      obtain ⟨wa, hwa⟩ : ∃ wa, wa = wr.alloc (.cells #[.int .i64 q.1, .slice (some ⟨gv, 0, none⟩) q.2.length cv] 78) := ⟨_, rfl⟩
      rw [← hwa]
      have hSa : Hid (Sees wa.drew (.slice (some ⟨gv, 0, none⟩) q.2.length cv) q.2) := by rw [hwa]; exact hS
      have hbk : wa.heap[wr.heap.size]? = some (.cells #[.int .i64 q.1, .slice (some ⟨gv, 0, none⟩) q.2.length cv] 78) := by rw [hwa]; exact heap_alloc_new wr _
      have cA : wa.drew.cell? ⟨wr.heap.size, 0, none⟩ = some (.int .i64 q.1) := by
        show wa.cell? _ = _
        simp [World.cell?, hbk]
      have cB : wa.drew.cell? ⟨wr.heap.size, 1, none⟩ = some (.slice (some ⟨gv, 0, none⟩) q.2.length cv) := by
        show wa.cell? _ = _
        simp [World.cell?, hbk]
      have hca : Chg (fun _ => False) wr wa := by rw [hwa]; exact (Chg.refl _ wr).alloc _
      have hHl : wr.heap.size < wa.drew.heap.size := heap_lt hbk
      have HWa := Lib.hid (HW.out.chg hca (fun _ _ f => f))
      have HHl := Lib.hid hHl
      have Hca := Lib.hid hca
      obtain ⟨vsW, hW1, hW2, hW3, hW4, hW5⟩ := HWa.out
      rw [Hlenk.out] at hW1 hW2
      have hla : (Value.slice a k cap).ownBlock ≠ some wr.heap.size := fun e => by
        obtain ⟨vs, _, _, h3, _, h5⟩ := HW.out
        have := (h5 _ (by rw [(h3 _ e).2]; simp)).2
        omega
      have HW1 := Lib.hid hW1
      have HW2 := Lib.hid hW2
      have HW3 := Lib.hid hW3
      have HW4 := Lib.hid hW4
      have HW5 := Lib.hid hW5
      have CA := Lib.hid cA
      have CB := Lib.hid cB
      have Hwa := Lib.hid hwa
      clear hwa hca hbk hHl hW1 hW2 hW3 hW4 hW5 cA cB
      go_region_held3 (fun w' => w'.cell? ⟨wr.heap.size, 0, none⟩ = some (.int .i64 q.1) ∧ w'.cell? ⟨wr.heap.size, 1, none⟩ = some (.slice (some ⟨gv, 0, none⟩) q.2.length cv))
        (first
          | exact ⟨CA.out, CB.out⟩
          | exact ⟨cA3, cB3⟩
          | exact ⟨cA4, cB4⟩
          | go_keep)
        (first
          | (refine step_append_lies _ (by rfl) _ _ _ (by rfl) 0 78 i1 _ 2 32 Tryz.underlying54 hi' hz0 hz1 hz2 rfl (by omega) (.slice a k cap) k (pcells (D.pending.take k) vsW) (by rfl) (Hrow3.out.alloc _)
                ⟨w3.heap.size, 0, none⟩ 1 1 [.int .i64 q.1, .slice (some ⟨g1, 0, none⟩) q.2.length cg1] (by rfl) (by rfl) (World.news_of_block (cs := #[.int .i64 q.1, .slice (some ⟨g1, 0, none⟩) q.2.length cg1]) (t := 78) (fr := (0, 0)) (heap_alloc_new w3 _)) (by simp [Value.oneCell'])
                (by omega) (by unfold maxLen; omega) (by omega) (Nat.zero_le _) (w3.heap.size + 1) (by simp) ?_; intro gg cap' w4 hown4 hgrow4 hat4 hlt4; have cA4 : w4.cell? ⟨wr.heap.size, 0, none⟩ = some (.int .i64 q.1) := (by rw [hgrow4.cell_far _ (by simp; omega) (Ne.symm hla)]; exact (((Chg.refl (fun _ => False) w3).alloc _) |> fun hc => cell_chg hc hbl3 (fun f => f)).trans cA3); have cB4 : w4.cell? ⟨wr.heap.size, 1, none⟩ = some (.slice (some ⟨gv, 0, none⟩) q.2.length cv) := (by rw [hgrow4.cell_far _ (by simp; omega) (Ne.symm hla)]; exact (((Chg.refl (fun _ => False) w3).alloc _) |> fun hc => cell_chg hc hbl3 (fun f => f)).trans cB3))
          | (go_simp; go_at_call 25; refine (clone_any _ _ q.2 hSa.out hne.out).mono ?_; rintro e w3 ⟨g1, cg1, rfl, hge1, hrow1, hc3⟩; have cA3 : w3.cell? ⟨wr.heap.size, 0, none⟩ = some (.int .i64 q.1) := (cell_chg hc3 HHl.out (fun f => f)).trans CA.out; have cB3 : w3.cell? ⟨wr.heap.size, 1, none⟩ = some (.slice (some ⟨gv, 0, none⟩) q.2.length cv) := (cell_chg hc3 HHl.out (fun f => f)).trans CB.out; have hbl3 : wr.heap.size < w3.heap.size := Nat.lt_of_lt_of_le HHl.out hc3.size; have Hrow3 := Lib.hid (ownsRow_chg HW2.out ((Chg.refl (fun _ => False) wa).drew.trans hc3 (fun _ f => f.elim)) (fun _ _ f => f)); have Hrow1 := Lib.hid hrow1; clear hrow1))
      have hc3' : Chg (fun _ => False) wa w3 := (Chg.refl (fun _ => False) wa).drew.trans hc3 (fun _ f => f.elim)
      have hcwa : Chg (fun _ => False) (w.setCell ⟨b, 0, none⟩ (.int .i32 1)) wa := hchg.trans Hca.out (fun _ f => f.elim)
      have hBa : B ≤ wa.heap.size := Nat.le_trans hBl Hca.out.size
      obtain ⟨rho', hW'⟩ := Writes.snoc (w := wa) (w3 := w3) (w4 := w4) (i := q.1) (by rw [Hlenk.out]; exact HW1.out) HW3.out HW4.out HW5.out hBa hc3' hge1 Hrow1.out (by rw [Hlenk.out]; exact hown4) hgrow4 hat4
      rw [Hlenk.out] at hW'
      have hc4 : Chg (fun _ => False) (w.setCell ⟨b, 0, none⟩ (.int .i32 1)) w4 := by
        refine ((hcwa.trans hc3' (fun _ f => f.elim)).alloc _).trans (S' := fun x => (Value.slice a k cap).ownBlock = some x) ⟨hgrow4.os, hgrow4.tape, hgrow4.output, hgrow4.size, fun k hk hn => hgrow4.block k hk (fun e => hn e.symm)⟩ (fun x e => .inr ?_)
        rw [Hsz.out, ← HB.out]; exact (HW3.out x e).1
      have hsz4 : B ≤ w4.heap.size := by
        have := hc4.size
        rw [Hsz.out, ← HB.out] at this; exact this
      have HW' := Lib.hid hW'
      have Hc4 := Lib.hid hc4
      clear hc3' hcwa hBa hW' hc4 hown4 hgrow4 hat4 cA3 cB3 cA4 cB4 hc3 hbl3
      go_wp2
      go_roundw
      case rel =>
        refine ⟨k + 1, some ⟨gg, 0, none⟩, cap', rho', by omega, by go_num, rfl, ?_, hsz4, Hc4.out⟩
        rw [List.take_add_one, Hq.out]
        exact HW'.out
      case measure => simp [intOf]; omega
    · have hk2 : k = D.pending.length := by omega
      subst hk2
      have h4 : DiskF wr own 1 b D sema lv (.slice pa D.pending.length pc) m := HF.out.chg hchg (fun _ _ f => f)
      have h4' : DiskAt wr own 1 b D := ⟨_, _, _, _, h4⟩
      obtain ⟨hs4, hfz4⟩ := h4'.lockCell
      have H4 := Lib.hid h4'
      have HW := Lib.hid hW
      have Hchg := Lib.hid hchg
      clear h4 h4' hW hchg
      go_wp2
      refine leaves_cons (f := 22) (args := #[.pointer (some ⟨b, 0, none⟩)]) (by simp) (by simp [go_sem]) ?_
      refine (unlock_deferred Tryz.muLib ⟨b, 0, none⟩ .returning _ hs4 (hfz4 0)).mono ?_
      rintro e u' w'' ⟨rfl, rfl, rfl⟩
      refine ⟨_, results_tmp rfl _ _ _, a, cap, rho, rfl, ?_, H4.out.lock 1 0, chgS ((chg1 (b := b) (o := 0) _).trans Hchg.out (fun _ f => f.elim)) 0 _⟩
      have hW2 := HW.out
      rw [List.take_length] at hW2
      refine hW2.chg (chg1 (b := b) (o := 0) _) (fun g e e2 => ?_)
      obtain ⟨_, _, _, _, _, h5⟩ := hW2
      have := (h5 g e).1
      rw [HB.out] at this
      omega

end Go.Proofs.YtckioocahmbhkaaGreatDoor
