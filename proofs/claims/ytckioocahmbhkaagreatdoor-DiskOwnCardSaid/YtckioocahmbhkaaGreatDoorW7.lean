/- Walks: rest. -/
import Derived.Test.YtckioocahmbhkaaGreatDoorW6
import Derived.Outline
namespace Go.Proofs.YtckioocahmbhkaaGreatDoor
open Go Go.RowKit Go.Maps Go.MuLone

theorem law3 : Keyed Tryz.prog 3 := int_keyed Tryz.underlying3

/-- delete, as a step of a region that draws. -/
theorem step_delete {H : Type} {P : Program} {ops : Array Oper} {o : Oper} {a : Act} {w : World} {K : Act → World → Prop} {Q : Exit → Act → World → Prop} {E : Prop} (hgd : o.guard = none) (m x : Operand) (t k : TypeId) (hop : o.op = Op.call { callee := Callee.builtin Builtin.delete, args := #[m, x], argTypes := #[t, k] })
    (e : TypeId) (KK : Keyed P k) (ht : P.underlying t = some (.map k e)) (R : Value → Option (DataW H × List MemPlace)) (b n : Nat) (D : DataW H)
    (hm : a.eval m = .map (some b)) (hown : w.ownsMap P k R b n D) (key : Value) (kl : Lit) (hx : a.eval x = key) (hkey : keyOf P k key = some kl)
    (hK : ∀ w', w'.ownsMap P k R b n (D.del kl) → w.mapTurned w' b → K (a.put o.dst (.tuple #[])) w') :
    if Region.wanted o (yielded ops a.tmps) = true then Oper.wp P o a w K Q else E := by
  have hw : Region.wanted o (yielded ops a.tmps) = true := by simp [Region.wanted, hgd]
  rw [if_pos hw]
  obtain ⟨w', hrun, r1, r2⟩ := hown.drop KK ht hkey o.type
  unfold Oper.wp
  simp [execOp, hop, resolve, invoke, builtin, hm, hx, hrun, Result.andThen]
  exact hK w' r1 r2

theorem lastOf_none {qs : List (Nat × List UInt8)} {i : Int} (h : ∀ q ∈ qs, (q.1 : Int) ≠ i) : lastOf qs i = none := by
  unfold lastOf
  rw [List.find?_eq_none.2]
  · rfl
  · intro q hq
    simpa using h q (by simpa using hq)
theorem lastOf_some {qs : List (Nat × List UInt8)} {i : Int} {p : List UInt8} (h : lastOf qs i = some p) : ∃ q ∈ qs, (q.1 : Int) = i ∧ q.2 = p := by
  unfold lastOf at h
  simp only [Option.map_eq_some_iff] at h
  obtain ⟨q, h1, h2⟩ := h
  have h3 := List.find?_some h1
  have h4 := List.mem_of_find?_eq_some h1
  exact ⟨q, by simpa using h4, by simpa using h3, h2⟩

theorem keyInt {i : Int} (h0 : 0 ≤ i) (h1 : i ≤ 1000000) : keyOf Tryz.prog 3 (.int .i64 i) = some (.int .i64 i) := keyOf_int_mk Tryz.underlying3 (WalkArith.wf_i64 (by omega))

set_option maxRecDepth 100000 in
theorem rest_any (w : World) (own : Own) (L : Int) (b : Nat) (D : DS) (sema lv pv : Value) (m : Nat) (h : DiskF w own L b D sema lv pv m) (hp : ∀ q ∈ D.pending, q.1 ≤ 1000000) :
    Calls Tryz.prog 27 #[.pointer (some ⟨b, 0, none⟩)] w fun e w' => e = .returned (.tuple #[]) ∧ DiskF w' own L b { D with pending := [] } sema lv (.slice none 0 0) m ∧ Chg (fun k => k = b ∨ k = m) w w' := by
  obtain ⟨vs, hvl, ⟨hpa, hpo⟩, hpv⟩ := h.pend
  obtain ⟨hmo, M, hM, hMq⟩ := h.now
  obtain ⟨pa, pc, rfl, hpn, hpm, hpg⟩ := ownsRow_slice hpa
  obtain ⟨h3, h4, h5⟩ := h.fields
  have fz4 : w.frozen? ⟨b, 4, none⟩ = false := by simp [World.frozen?, h.blk]
  have hmb : m ≠ b := fun e => by
    subst e
    rw [h.str] at hmo; cases hmo
  have hbl : b < w.heap.size := h.lt b (Own.blocks_of h.str)
  have h0 := Lib.hid h
  have Hpo := Lib.hid hpo
  have HMq := Lib.hid hMq
  have Hmo := Lib.hid hmo
  have Hvl := Lib.hid hvl
  clear h hpo hMq hmo hvl
  unfold maxLen at hpm
  go_enter Tryz.func27, Tryz.ntmps27
  go_wp2
  go_loopw [9] (fun i wr => ∃ (k : Nat) (M' : DataW Value), k ≤ D.pending.length ∧ i = .int .i64 k ∧ Chg (fun x => x = m) w wr ∧ wr.ownsMap Tryz.prog 3 RV m D.wr M' ∧ (∀ i : Int, (∃ q ∈ D.pending.take k, (q.1 : Int) = i) ∨ Maps.has M (.int .i64 i) = false → Maps.has M' (.int .i64 i) = false))
    (fun i _ => D.pending.length - (intOf i).toNat)
  case atStart => exact ⟨0, M, Nat.zero_le _, rfl, Chg.refl _ _, hM, fun i hi => by simpa using hi⟩
  case round =>
    obtain ⟨k, M', hk, rfl, hchg, hM', hq'⟩ := hrel
    have c5 : wr.cell? ⟨b, 5, none⟩ = some (.map (some m)) := (cell_chg hchg hbl (Ne.symm hmb)).trans h5
    have c4 : wr.cell? ⟨b, 4, none⟩ = some (.slice pa D.pending.length pc) := (cell_chg hchg hbl (Ne.symm hmb)).trans h4
    have f4 : wr.frozen? ⟨b, 4, none⟩ = false := (frozen_chg hchg hbl (Ne.symm hmb)).trans fz4
    have Hq' := Lib.hid hq'
    clear hq'
    by_cases hlt : k < D.pending.length
    · obtain ⟨g, rfl⟩ := hpg (by omega)
      have hrow := ownsRow_chg hpa hchg (fun g e e2 => by
        subst e2; have := Hpo.out _ e; rw [Hmo.out] at this; cases this)
      obtain ⟨q, hq⟩ : ∃ q, D.pending[k]? = some q := ⟨_, List.getElem?_eq_getElem hlt⟩
      obtain ⟨v, hv, gv, cv, rfl, _, _⟩ := hpv k q hq
      obtain ⟨e1, e2⟩ := pcells_get D.pending vs k q _ hq hv
      have hvl := Hvl.out
      have hlen2 := pcells_length D.pending vs hvl
      have c1 : wr.cell? ⟨g, k * 2, none⟩ = some (.int .i64 q.1) := (hrow.cellAt (k * 2) (by omega)).trans e1
      have c2 : wr.cell? ⟨g, k * 2 + 1, none⟩ = some (.slice (some ⟨gv, 0, none⟩) q.2.length cv) := (hrow.cellAt (k * 2 + 1) (by omega)).trans e2
      have hq1 : q.1 ≤ 1000000 := hp q (List.mem_of_getElem? hq)
      have Hq := Lib.hid hq
      have hblr : b < wr.heap.size := Nat.lt_of_lt_of_le hbl hchg.size
      have c5' : ∀ o, (wr.alloc o).cell? ⟨b, 5, none⟩ = some (.map (some m)) := fun o => (World.cell?_alloc_past _ _ _ hblr).trans c5
      clear hrow e1 e2 hvl hlen2 hv hq hblr
      go_wp2_with fail
      go_region_law
        ((refine step_delete (by rfl) _ _ _ _ (by rfl) 47 law3 Tryz.underlying67 RV m D.wr M' (by rfl) ((hM'.alloc _).drew) _ (.int .i64 q.1) (by rfl) (keyInt (by omega) (by omega)) ?_; intro w1 hM1 ht1))
      all_goals
        have Hg := Lib.hid ht1.grown
        have HM1 := Lib.hid hM1
        clear ht1 hM1
        go_wp2
        go_roundw
        case rel =>
          refine ⟨k + 1, _, by omega, by go_num, ((hchg.alloc _).drew).grown Hg.out (fun k e => .inl (by cases e; rfl)), HM1.out, fun i hi => ?_⟩
          by_cases e : i = q.1
          · subst e; exact has_del_same
          · rw [has_del_other (by simpa using e)]
            apply Hq'.out
            rcases hi with ⟨q', hq', e'⟩ | hi
            · rw [List.take_add_one, Hq.out] at hq'
              simp only [Option.toList, List.mem_append, List.mem_singleton] at hq'
              rcases hq' with hq' | rfl
              · exact .inl ⟨q', hq', e'⟩
              · exact absurd e'.symm e
            · exact .inr hi
        case measure => simp [intOf]; omega
    · go_wp2
      go_end0
      have hk2 : k = D.pending.length := by omega
      subst hk2
      refine ⟨rfl, ?_, (hchg.mono (fun x e => .inr e)).setCell (p := ⟨b, 4, none⟩) (.inl (.inl rfl)) _⟩
      have H := h0.out
      have hc : Chg (fun k => k = b ∨ k = m) w (wr.setCell ⟨b, 4, none⟩ (.slice none 0 0)) := (hchg.mono (fun x e => .inr e)).setCell (p := ⟨b, 4, none⟩) (.inl (.inl rfl)) _
      have kk : ∀ x r, own x = some r → r ≠ .str → r ≠ .mp → ¬ (x = b ∨ x = m) := fun x r e hr hr' hx => by
        rcases hx with hx | hx
        · exact not_b H.str e hr hx
        · subst hx; rw [Hmo.out] at e; cases e; exact hr' rfl
      refine ⟨H.str, ?_, H.last.chg hc (fun x e => kk x _ e (by simp) (by simp)) (fun x i e => kk x _ e (by simp) (by simp)), ⟨[], rfl, ⟨World.ownsRow_nil _ _ _ _, fun g e => by simp [Value.ownBlock] at e⟩, fun i q hi => by simp at hi⟩, ⟨Hmo.out, M', ?_, fun i => ?_⟩, H.f0, H.f1, fun x hx => Nat.lt_of_lt_of_le (H.lt x hx) hc.size⟩
      · rw [heap_setCell_same _ (hchg.get H.blk (Ne.symm hmb))]; rfl
      · exact hM'.setCell hmb _
      · show Maps.has M' _ = false
        apply Hq'.out
        rw [List.take_length]
        by_cases hex : ∃ q ∈ D.pending, (q.1 : Int) = i
        · exact .inl hex
        · right
          have := HMq.out i
          rw [lastOf_none (fun q hq e => hex ⟨q, hq, e⟩)] at this
          exact this

end Go.Proofs.YtckioocahmbhkaaGreatDoor
