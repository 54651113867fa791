/- The document's pool: Unpin. -/
import Derived.Test.YtipclbibomemjaaV5
namespace Go.Proofs.Ytipclbibomemjaa
open Go Go.RowKit Go.Maps

theorem app_ints {wr : World} {ops : Array Oper} {rest : List Oper} {o : Oper} {a : Act} {Q : Exit → Act → World → Prop} (hgd : o.guard = none) (s x : Operand)
    (ho : o.op = .call { callee := .builtin .append, args := #[s, x], argTypes := #[22, 22] }) (v : Value) (zs : List Int) (hs : a.eval s = v) (hrow : wr.ownsRow 0 3 1 v zs.length (zs.map (Value.int .i64)))
    (ad : Addr) (ys : List Int) (m c : Nat) (hx : a.eval x = .slice (some ad) m c) (hm : ys.length = m) (hc : ∀ (j : Nat) (y : Int), ys[j]? = some y → wr.cell? (ad.add j) = some (.int .i64 y)) (hl : zs.length + m ≤ 3000000)
    (h : ∀ v' w5, w5.ownsRow 0 3 1 v' (zs ++ ys).length ((zs ++ ys).map (Value.int .i64)) → Chg (fun k => v.ownBlock = some k) wr w5 → (∀ g, v'.ownBlock = some g → v.ownBlock = some g ∨ wr.heap.size ≤ g) → wpList Try.prog ops Q rest (a.put o.dst v') w5) :
    wpList Try.prog ops Q (o :: rest) a wr := by
  obtain ⟨i1, hi', hz0, hz1, hz2⟩ := info_parts info3
  subst hm
  refine wpList_append_own_at _ hgd s x 22 ho 0 3 i1 (.int .i64 0) 1 8 Try.underlying22 hi' hz0 hz1 hz2 rfl (by decide) v zs.length (zs.map (Value.int .i64)) hs hrow ad ys.length c (ys.map (Value.int .i64)) hx (by rw [List.length_map, Nat.mul_one]) (fun j u hu => ?_) (fun u hu => ?_) (by unfold maxLen; omega) (by omega) (Nat.zero_le _) ?_
  · rw [List.getElem?_map] at hu
    cases hy : ys[j]? with
    | none => rw [hy] at hu; cases hu
    | some y => rw [hy] at hu; cases hu; exact hc j y hy
  · obtain ⟨y, _, rfl⟩ := List.mem_map.1 hu; rfl
  · intro v' w5 h1 h2 h3 h4
    refine h v' w5 (by rw [List.length_append, List.map_append]; exact h1) ((Chg.refl (fun k => v.ownBlock = some k) wr).grown h2 (fun k e => .inl e)) (fun g e => ?_)
    rcases h4 with e2 | e2
    · exact .inl (e2 ▸ e)
    · rw [e2] at e
      injection e with e3
      right; omega

theorem Chg.get_cell {S : Nat → Prop} {w w' : World} {b o : Nat} {v : Value} (h : Chg S w w') (hc : w.cell? ⟨b, o, none⟩ = some v) (hs : ¬ S b) : w'.cell? ⟨b, o, none⟩ = some v := (cell_chg h (World.block_lt_of_cell? _ _ hc) hs).trans hc
theorem erase_at {pins : List Int} {k : Nat} {x : Int} (h : pins[k]? = some x) (hn : x ∉ pins.take k) : pins.erase x = pins.take k ++ pins.drop (k + 1) ∧ x ∈ pins := by
  have e : pins = pins.take k ++ x :: pins.drop (k + 1) := by rw [← drop_cons h, List.take_append_drop]
  refine ⟨?_, List.mem_of_getElem? h⟩
  conv => lhs; rw [e]
  rw [List.erase_append_right _ hn, List.erase_cons_head]

set_option maxRecDepth 100000 in
set_option maxHeartbeats 4000000 in
theorem runpin_any (w : World) (rb : Nat) (P : PS) (lv pv : Value) (h : RF w rb P lv pv) (hp : P.pins.length ≤ 1000000) (x : Int) :
    Calls Try.prog 33 #[.pointer (some ⟨rb, 0, none⟩), .int .i64 x] w fun e w' => e = .returned (.bool (decide (x ∈ P.pins))) ∧ ∃ pv', RF w' rb { P with pins := P.pins.erase x, wr := P.wr + 1 } lv pv' ∧ Chg (fun k => k = rb ∨ pv.ownBlock = some k) w w' ∧ ∀ g, pv'.ownBlock = some g → pv.ownBlock = some g ∨ w.heap.size ≤ g := by
  obtain ⟨_, _, _, c3, cf⟩ := h.cells
  have f3 := cf 3
  obtain ⟨b, d, rfl, hd1, hd2, _⟩ := ownsRow_slice h.pn
  have HF := Lib.hid h
  have hlt := h.lt
  obtain ⟨m, hm⟩ : ∃ m, m = P.pins.length := ⟨_, rfl⟩
  have HM := Lib.hid hm
  rw [← hm] at c3 hp hd1 HF
  clear h cf hm
  go_enter Try.func33, Try.ntmps33
  go_wp2_with fail
  go_loopg [5] m (fun gm iv wr => ∃ (k : Nat), k ≤ m ∧ gm = m - k ∧ iv = .int .i64 k ∧ w = wr ∧ x ∉ P.pins.take k)
  case atStart => exact ⟨0, by omega, rfl, rfl, rfl, by simp⟩
  case round =>
    obtain ⟨k, hk, hg, rfl, rfl, hno⟩ := hrel
    have Hg := Lib.hid hg
    have Hno := Lib.hid hno
    clear hg hno
    by_cases hlt2 : k < m
    · obtain ⟨y, hy⟩ : ∃ y, P.pins[k]? = some y := ⟨_, List.getElem?_eq_getElem (by rw [← HM.out]; exact hlt2)⟩
      obtain ⟨gp, e, dp⟩ := pins_cell (n := m) (by have := HF.out.pn; rw [← HM.out] at this; exact this) hy
      cases e
      have hji : (k : Int) < (m : Int) := by omega
      have hj0 : (0 : Int) ≤ (k : Int) := by omega
      have HY := Lib.hid hy
      clear hy
      cases hb : (y == x) with
      | false =>
        have HN2 : Hid (x ∉ P.pins.take (k + 1)) := Lib.hid (by
          rw [take_snoc HY.out, List.mem_append]
          rintro (h | h)
          · exact Hno.out h
          · simp at h; rw [beq_eq_false_iff_ne] at hb; exact hb h.symm)
        go_wp2_with fail
        go_roundg (m - (k + 1))
        case measure => have := Hg.out; omega
        case rel => exact ⟨k + 1, by omega, rfl, by go_num, rfl, HN2.out⟩
      | true =>
        have hyx : y = x := by rwa [beq_iff_eq] at hb
        have HE := Lib.hid (erase_at (by rw [← hyx]; exact HY.out) Hno.out)
        have HL1 : Hid ((P.pins.take k).length = k) := Lib.hid (by rw [List.length_take, ← HM.out]; omega)
        have HL2 : Hid ((P.pins.drop (k + 1)).length = m - k - 1) := Lib.hid (by rw [List.length_drop, ← HM.out]; omega)
        have hki : (k : Int) ≤ (d : Int) := by omega
        have hk1 : (k : Int) + 1 ≤ (m : Int) := by omega
        have hk2 : (0 : Int) ≤ (k : Int) + 1 := by omega
        have Hyx := Lib.hid hyx
        clear hyx
        have HCell : Hid (∀ (j : Nat) (y : Int), P.pins[j]? = some y → w.cell? ((⟨gp, 0, none⟩ : Addr).add j) = some (.int .i64 y)) := Lib.hid (fun j y hy => by
          obtain ⟨_, e, c⟩ := pins_cell (n := m) (by have := HF.out.pn; rw [← HM.out] at this; exact this) hy
          cases e
          rw [addr_add, Nat.zero_add]; exact c)
        have HF' : Hid (RF w rb P lv (.slice (some ⟨gp, 0, none⟩) m d)) := Lib.hid HF.out
        by_cases hcap : k + 1 = d
        · go_wp2_with (first
            | (at_builtin; refine app_ints rfl _ _ rfl (.slice none 0 0) [] rfl (World.ownsRow_nil _ _ _ _) ⟨gp, 0, none⟩ (P.pins.take k) k d rfl HL1.out (fun j y hy => HCell.out j y (by rw [List.getElem?_take] at hy; split at hy; exact hy; cases hy)) (by show 0 + k ≤ _; omega) ?_; intro v1 w5 hr5 hc5 hg5; rw [List.nil_append, HL1.out] at hr5; obtain ⟨a1, c1, rfl, _⟩ := ownsRow_slice hr5; have HR5 := Lib.hid hr5; have HC5 : Hid (Chg (fun _ => False) w w5) := Lib.hid (hc5.mono (fun k e => (by cases e))); have HG5 : Hid (∀ g, (Value.slice a1 k c1).ownBlock = some g → w.heap.size ≤ g) := Lib.hid (fun g e => (hg5 g e).resolve_left (fun e => by cases e)); have d5 := (HF.out.chg0 HC5.out).cells.2.2.2.1; have f5 := (HF.out.chg0 HC5.out).cells.2.2.2.2 3; clear hr5 hc5 hg5)
            | (at_builtin; refine app_ints rfl _ _ rfl (.slice a1 k c1) (P.pins.take k) rfl (by rw [HL1.out]; exact HR5.out) _ (P.pins.drop (k + 1)) _ _ rfl (by rw [HL2.out]; omega) (fun j y hy => by have h1 := (List.getElem?_eq_some_iff.1 hy).1; rw [HL2.out] at h1; omega) (by rw [HL1.out]; omega) ?_; intro v2 w6 hr6 hc6 hg6; rw [← HE.out.1] at hr6; obtain ⟨a2, c2', rfl, _⟩ := ownsRow_slice hr6; have HR6 := Lib.hid hr6; have HC6 : Hid (Chg (fun _ => False) w w6) := Lib.hid (HC5.out.news hc6 HG5.out); have HG6 : Hid (∀ g, (Value.slice a2 (P.pins.erase x).length c2').ownBlock = some g → w.heap.size ≤ g) := Lib.hid (fun g e => (hg6 g e).elim (HG5.out g) (fun e => Nat.le_trans HC5.out.size e)); have d6 := (HF.out.chg0 HC6.out).cells.2.2.2.1; have f6 := (HF.out.chg0 HC6.out).cells.2.2.2.2 3; clear hr6 hc6 hg6)
            | fail)
          go_ret
          refine ⟨by rw [decide_eq_true HE.out.2]; rfl, _, HF'.out.setPins (pins := P.pins.erase x) (wr' := P.wr + 1) HC6.out (fun f => f) (fun _ _ f => f) HR6.out (fun g e => ?_), (HC6.out.mono (fun _ f => f.elim)).setCell (p := ⟨rb, 3, none⟩) (.inl (.inl rfl)) _, fun g e => .inr (HG6.out g e)⟩
          have := HG6.out g e
          exact ⟨by omega, fun e2 => by have := ownsRow_lt HF.out.fr e2; omega⟩
        · go_wp2_with (first
            | (at_builtin; refine app_ints rfl _ _ rfl (.slice none 0 0) [] rfl (World.ownsRow_nil _ _ _ _) ⟨gp, 0, none⟩ (P.pins.take k) k d rfl HL1.out (fun j y hy => HCell.out j y (by rw [List.getElem?_take] at hy; split at hy; exact hy; cases hy)) (by show 0 + k ≤ _; omega) ?_; intro v1 w5 hr5 hc5 hg5; rw [List.nil_append, HL1.out] at hr5; obtain ⟨a1, c1, rfl, _⟩ := ownsRow_slice hr5; have HR5 := Lib.hid hr5; have HC5 : Hid (Chg (fun _ => False) w w5) := Lib.hid (hc5.mono (fun k e => (by cases e))); have HG5 : Hid (∀ g, (Value.slice a1 k c1).ownBlock = some g → w.heap.size ≤ g) := Lib.hid (fun g e => (hg5 g e).resolve_left (fun e => by cases e)); have d5 := (HF.out.chg0 HC5.out).cells.2.2.2.1; have f5 := (HF.out.chg0 HC5.out).cells.2.2.2.2 3; clear hr5 hc5 hg5)
            | (at_builtin; refine app_ints rfl _ _ rfl (.slice a1 k c1) (P.pins.take k) rfl (by rw [HL1.out]; exact HR5.out) _ (P.pins.drop (k + 1)) _ _ rfl (by rw [HL2.out]; omega) (fun j y hy => by rw [List.getElem?_drop] at hy; have h1 := HCell.out _ y hy; rw [addr_add, Nat.zero_add] at h1; rw [addr_add]; exact (HC5.out.get_cell h1 (fun f => f))) (by rw [HL1.out]; omega) ?_; intro v2 w6 hr6 hc6 hg6; rw [← HE.out.1] at hr6; obtain ⟨a2, c2', rfl, _⟩ := ownsRow_slice hr6; have HR6 := Lib.hid hr6; have HC6 : Hid (Chg (fun _ => False) w w6) := Lib.hid (HC5.out.news hc6 HG5.out); have HG6 : Hid (∀ g, (Value.slice a2 (P.pins.erase x).length c2').ownBlock = some g → w.heap.size ≤ g) := Lib.hid (fun g e => (hg6 g e).elim (HG5.out g) (fun e => Nat.le_trans HC5.out.size e)); have d6 := (HF.out.chg0 HC6.out).cells.2.2.2.1; have f6 := (HF.out.chg0 HC6.out).cells.2.2.2.2 3; clear hr6 hc6 hg6)
            | fail)
          go_ret
          refine ⟨by rw [decide_eq_true HE.out.2]; rfl, _, HF'.out.setPins (pins := P.pins.erase x) (wr' := P.wr + 1) HC6.out (fun f => f) (fun _ _ f => f) HR6.out (fun g e => ?_), (HC6.out.mono (fun _ f => f.elim)).setCell (p := ⟨rb, 3, none⟩) (.inl (.inl rfl)) _, fun g e => .inr (HG6.out g e)⟩
          have := HG6.out g e
          exact ⟨by omega, fun e2 => by have := ownsRow_lt HF.out.fr e2; omega⟩
    · have HF2 : Hid (decide (x ∈ P.pins) = false) := Lib.hid (by
        rw [decide_eq_false_iff_not]
        have := Hno.out
        rw [List.take_of_length_le (by rw [← HM.out]; omega)] at this; exact this)
      have HE2 : Hid (P.pins.erase x = P.pins) := Lib.hid (List.erase_of_not_mem (of_decide_eq_false HF2.out))
      go_wp2_with fail
      go_ret
      refine ⟨by rw [HF2.out]; rfl, _, ?_, Chg.refl _ _, fun g e => .inl e⟩
      rw [HE2.out]
      have h9 := HF.out
      rw [HM.out] at h9
      exact ⟨h9.blk, h9.fr, h9.pn, h9.nl, h9.np, h9.ne⟩
end Go.Proofs.Ytipclbibomemjaa
