/- Walks: Bytes, Write and Writes of the document: copies in new memory. -/
import Derived.Test.YtckioocahmbhkaaGreatDoorWS
import Derived.Deep.AppendLies
import Derived.Deep.RegionHeld3
import Derived.Deep.RegionWith
import Derived.Deep.LoopGhost
import Derived.Lib.BufferRead
import Derived.Outline
import Derived.BigQuiet
namespace Go.Proofs.YtckioocahmbhkaaGreatDoor
open Go Go.RowKit Go.Maps

theorem cell_of {S : Nat → Prop} {w w' : World} {a : Addr} {v : Value} (h : Chg S w w') (hv : w.cell? a = some v) (hs : ¬ S a.block) : w'.cell? a = some v :=
  (World.cell?_of_block (w := w) (w' := w') (a := a) (h.block a.block (World.block_lt_of_cell? _ _ hv) hs)).trans hv
theorem row_ne {w : World} {B1 B2 : Nat} {e1 e2 : TypeId} {s1 s2 n1 n2 : Nat} {v1 v2 : Value} {x1 x2 : List Value} (h1 : w.ownsRow B1 e1 s1 v1 n1 x1) (h2 : w.ownsRow B2 e2 s2 v2 n2 x2) (hne : e1 ≠ e2) : ∀ g, v1.ownBlock = some g → ¬ v2.ownBlock = some g := by
  intro g e f
  rcases h1.2 with ⟨q, _⟩ | ⟨g1, c1, cur1, q, _, hh1, _⟩
  · rw [q] at e; simp [Value.ownBlock] at e
  · rcases h2.2 with ⟨q2, _⟩ | ⟨g2, c2, cur2, q2, _, hh2, _⟩
    · rw [q2] at f; simp [Value.ownBlock] at f
    · rw [q] at e; rw [q2] at f
      simp only [Value.ownBlock, Option.some.injEq] at e f
      subst e; subst f
      rw [hh1] at hh2
      injection hh2 with h3
      injection h3 with h4 h5
      exact hne h5
theorem brow_lt {w : World} {B : Nat} {e : TypeId} {sz n : Nat} {v : Value} {xs : List Value} (h : w.ownsRow B e sz v n xs) : ∀ g, v.ownBlock = some g → g < w.heap.size := by
  intro g eg
  rcases h.2 with ⟨q, _⟩ | ⟨g1, c1, cur1, q, _, hh1, _⟩
  · rw [q] at eg; simp [Value.ownBlock] at eg
  · rw [q] at eg; simp only [Value.ownBlock, Option.some.injEq] at eg
    rw [← eg]; exact heap_lt hh1
theorem heap_alloc_new2 (w : World) (a b : Obj) : ((w.alloc a).alloc b).heap[w.heap.size + 1]? = some b := by
  have h := heap_alloc_new (w.alloc a) b
  have e : (w.alloc a).heap.size = w.heap.size + 1 := Array.size_push _
  rw [e] at h; exact h
theorem wsees_of_row {w : World} {v : Value} {qs : List (Nat × List UInt8)} {vs : List Value} (h1 : vs.length = qs.length) (h2 : w.ownsRow 0 78 2 v qs.length (pcells qs vs)) (h3 : ∀ (j : Nat) x q, vs[j]? = some x → qs[j]? = some q → SeesB w x q.2) : WSees w v qs := by
  obtain ⟨a, cap, rfl, _, _, hg⟩ := ownsRow_slice h2
  refine ⟨a, cap, rfl, fun i q hq => ?_⟩
  have hlt := (List.getElem?_eq_some_iff.1 hq).1
  obtain ⟨g, rfl⟩ := hg (by omega)
  obtain ⟨x, hx⟩ : ∃ x, vs[i]? = some x := ⟨_, List.getElem?_eq_getElem (by omega)⟩
  obtain ⟨e1, e2⟩ := pcells_get qs vs i q x hq hx
  have hl := pcells_length qs vs h1
  exact ⟨g, x, rfl, (h2.cellAt (i * 2) (by omega)).trans e1, (h2.cellAt (i * 2 + 1) (by omega)).trans e2, h3 i x q hx hq⟩

set_option maxRecDepth 100000 in
theorem bytes_any (w : World) (v : Value) (bs : List UInt8) (h : SeesB w v bs) (hcap : bs.length ≤ 140737488351232) :
    Calls Tryz.prog 14 #[v] w fun e w' => ∃ g cap, e = .returned (.slice (some ⟨g, 0, none⟩) bs.length cap) ∧ w.heap.size ≤ g ∧ w'.ownsRow 0 5 1 (.slice (some ⟨g, 0, none⟩) bs.length cap) bs.length (bVs bs) ∧ Chg (fun _ => False) w w' := by
  obtain ⟨a, cap, rfl, hn, hcell⟩ := h
  obtain ⟨i1, hi', hz0, hz1, hz2⟩ := info_parts info5
  obtain ⟨B, hB⟩ : ∃ B, B = w.heap.size := ⟨_, rfl⟩
  rw [← hB]
  have HB := Lib.hid hB
  clear hB
  cases a with
  | none =>
    obtain rfl : bs = [] := hn rfl
    clear hn hcell
    go_enter Tryz.func14, Tryz.ntmps14
    go_wp2_with (at_make; refine wpList_make_own _ rfl _ _ 47 rfl 0 5 i1 (.int .u8 0) 1 Tryz.underlying47 hi' hz0 hz1 .i64 .i64 _ 0 rfl rfl (by simp) (by omega) (by unfold maxLen; omega) (Nat.zero_le _) ?_; intro w1 hown1 hg1; rw [← HB.out] at hown1 ⊢; have Hown1 := Lib.hid hown1; have Hg1 := Lib.hid hg1; clear hown1 hg1)
    go_ret
    exact ⟨B, 0, rfl, Nat.le_refl _, Hown1.out, (Chg.refl _ _).grown Hg1.out (fun k e => by cases e)⟩
  | some ad =>
    have Hc := Lib.hid (hcell ad rfl)
    clear hn hcell
    go_enter Tryz.func14, Tryz.ntmps14
    go_wp2_with (first
      | (at_make; refine wpList_make_own _ rfl _ _ 47 rfl 0 5 i1 (.int .u8 0) 1 Tryz.underlying47 hi' hz0 hz1 .i64 .i64 _ bs.length rfl rfl (by simp) (by rw [hz2]; omega) (by unfold maxLen; omega) (Nat.zero_le _) ?_; intro w1 hown1 hg1; rw [← HB.out] at hown1 ⊢; have Hown1 := Lib.hid hown1; have Hg1 := Lib.hid hg1; clear hown1 hg1)
      | (at_builtin; refine wpList_append_own_at _ rfl _ _ 47 rfl 0 5 i1 (.int .u8 0) 1 1 Tryz.underlying47 hi' hz0 hz1 hz2 rfl (by decide) (.slice (some ⟨B, 0, none⟩) 0 bs.length) 0 [] (by rfl) Hown1.out ad bs.length cap (bVs bs) rfl (by rw [bVs_length, Nat.mul_one]) (fun j u hu => by obtain ⟨x, hx, rfl⟩ := bVs_get hu; have h := Hc.out j x hx; exact Hg1.out.cell h (by simp)) oneCell_bVs (by unfold maxLen; omega) (by omega) (Nat.zero_le _) ?_; intro v' w2 hown2 hg2 hnil2 hat2))
    have hne : v' ≠ .slice none 0 0 := fun e => by have := (hnil2.1 e).1; cases this
    rw [Nat.zero_add, List.nil_append] at hown2
    obtain ⟨g, cap', rfl⟩ : ∃ g cap', v' = .slice (some ⟨g, 0, none⟩) bs.length cap' := by
      rcases hown2.2 with ⟨e, _⟩ | ⟨g, cap', _, e, _⟩
      · exact (hne e).elim
      · exact ⟨g, cap', e⟩
    have hge : B ≤ g := by
      rcases hat2 with e | e
      · simp only [Value.ownBlock, Option.some.injEq] at e
        omega
      · have := Hg1.out.size
        simp only [Value.ownBlock, Option.some.injEq] at e
        rw [HB.out]; omega
    have Hown2 := Lib.hid hown2
    have Hg2 := Lib.hid hg2
    clear hown2 hg2 hnil2 hat2 hne
    go_wp2
    go_ret
    exact ⟨g, cap', rfl, hge, Hown2.out, ((Chg.refl _ w).grown Hg1.out (fun k e => by cases e)).grown Hg2.out (fun k e => (Or.inr (by simp only [Value.ownBlock, Option.some.injEq] at e; rw [← HB.out]; omega)))⟩

/-- Writes in a row of one's own, made since w, their bytes too. -/
structure RowW (w wr : World) (v : Value) (vs : List Value) (ps : List (Nat × List UInt8)) : Prop where
  shape : ∃ a c, v = .slice a ps.length c
  row : wr.ownsRow 0 78 2 v ps.length (pcells ps vs)
  len : vs.length = ps.length
  own : ∀ g, v.ownBlock = some g → w.heap.size ≤ g
  bytes : ∀ (j : Nat) x p, vs[j]? = some x → ps[j]? = some p → wr.ownsRow 0 5 1 x p.2.length (bVs p.2) ∧ ∀ g, x.ownBlock = some g → w.heap.size ≤ g
theorem RowW.chg0 {w w1 w2 : World} {v : Value} {vs : List Value} {ps : List (Nat × List UInt8)} (h : RowW w w1 v vs ps) (hc : Chg (fun _ => False) w1 w2) : RowW w w2 v vs ps :=
  ⟨h.shape, ownsRow_chg h.row hc (fun _ _ f => f), h.len, h.own, fun j x p hx hp => ⟨ownsRow_chg (h.bytes j x p hx hp).1 hc (fun _ _ f => f), (h.bytes j x p hx hp).2⟩⟩
/-- One write more. -/
theorem RowW.push {w wr w6 : World} {v v' kv : Value} {vs : List Value} {ps : List (Nat × List UInt8)} {p : Nat × List UInt8} (h : RowW w wr v vs ps) (hk : wr.ownsRow 0 5 1 kv p.2.length (bVs p.2) ∧ ∀ g, kv.ownBlock = some g → w.heap.size ≤ g) (hsh : ∃ a c, v' = .slice a (ps.length + 1) c)
    (hr : w6.ownsRow 0 78 2 v' (ps.length + 1) (pcells ps vs ++ [.int .i64 p.1, kv])) (hc : Chg (fun k => v.ownBlock = some k) wr w6) (ho : ∀ g, v'.ownBlock = some g → v.ownBlock = some g ∨ w.heap.size ≤ g) : RowW w w6 v' (vs ++ [kv]) (ps ++ [p]) := by
  have hl : (ps ++ [p]).length = ps.length + 1 := by simp
  have kc : ∀ {u : Value} {bs : List UInt8}, wr.ownsRow 0 5 1 u bs.length (bVs bs) → w6.ownsRow 0 5 1 u bs.length (bVs bs) := fun {u bs} hn => ownsRow_chg hn hc (fun g e => row_ne hn h.row (by decide) g e)
  refine ⟨by rw [hl]; exact hsh, by rw [hl, pcells_snoc _ _ h.len]; exact hr, by simp [h.len], fun g e => (ho g e).elim (h.own g) id, fun j x q hx hq => ?_⟩
  rcases Nat.lt_or_ge j ps.length with hj | hj
  · rw [List.getElem?_append_left (by rw [h.len]; exact hj)] at hx
    rw [List.getElem?_append_left hj] at hq
    obtain ⟨h1, h2⟩ := h.bytes j x q hx hq
    exact ⟨kc h1, h2⟩
  · rw [List.getElem?_append_right hj] at hq
    rw [List.getElem?_append_right (by rw [h.len]; exact hj), h.len] at hx
    have h0 : j - ps.length = 0 := by
      have := (List.getElem?_eq_some_iff.1 hq).1
      simp at this; omega
    rw [h0] at hx hq
    simp at hx hq
    subst hx; subst hq
    exact ⟨kc hk.1, hk.2⟩

theorem res35 {w : World} {tmps : Array Value} {b : Nat} {k u : Value} (h6 : tmps[2]?.getD undef = .pointer (some ⟨b, 0, none⟩)) (c0 : w.cell? ⟨b, 0, none⟩ = some k) (c1 : w.cell? ⟨b, 1, none⟩ = some u) :
    (results Tryz.f35 tmps).run Tryz.prog w = .ok (.agg #[k, u]) w := by
  simp [results, Tryz.results35, go_sem, h6, c0, c1]
theorem row5_ne {w : World} {B n sz b : Nat} {v : Value} {xs : List Value} {cs : Array Value} {fz : Nat × Nat} (h : w.ownsRow B 5 sz v n xs) (hb : w.heap[b]? = some (.cells cs 78 fz)) : ∀ g, v.ownBlock = some g → ¬ g = b := by
  rintro g e rfl
  rcases h.2 with ⟨q, _⟩ | ⟨g1, c1, cur1, q, _, hh1, _⟩
  · rw [q] at e; simp [Value.ownBlock] at e
  · rw [q] at e; simp only [Value.ownBlock, Option.some.injEq] at e
    subst e
    rw [hb] at hh1
    injection hh1 with h3
    injection h3 with _ h5
    exact absurd h5 (by decide)

set_option maxRecDepth 100000 in
set_option maxHeartbeats 8000000 in
theorem writec_any (w : World) (n : Int) (uv : Value) (bs : List UInt8) (hu : SeesB w uv bs) (h2 : bs.length ≤ 1073741824) :
    Calls Tryz.prog 35 #[.agg #[.int .i64 n, uv]] w fun e w' => ∃ g c, e = .returned (.agg #[.int .i64 n, .slice (some ⟨g, 0, none⟩) bs.length c]) ∧ w'.ownsRow 0 5 1 (.slice (some ⟨g, 0, none⟩) bs.length c) bs.length (bVs bs) ∧ w.heap.size ≤ g ∧ Chg (fun _ => False) w w' := by
  have HU := Lib.hid hu
  obtain ⟨ua, uc, rfl, _, _⟩ := hu
  go_enter Tryz.func35, Tryz.ntmps35
  go_wp2_with fail
  obtain ⟨W0, hW0⟩ : ∃ W0, W0 = (w.alloc (.cells #[.int .i64 n, .slice ua bs.length uc] 78)).alloc (.cells #[.int .i64 0, .slice none 0 0] 78) := ⟨_, rfl⟩
  rw [← hW0]
  have CA : Hid (Chg (fun _ => False) w W0) := Lib.hid (by rw [hW0]; exact ((Chg.refl _ w).alloc _).alloc _)
  have hp : W0.heap[w.heap.size]? = some (.cells #[.int .i64 n, .slice ua bs.length uc] 78) := by rw [hW0]; exact heap_alloc_keep _ (heap_alloc_new w _)
  have hq : W0.heap[w.heap.size + 1]? = some (.cells #[.int .i64 0, .slice none 0 0] 78) := by rw [hW0]; exact heap_alloc_new2 w _ _
  have HP := Lib.hid hp
  have HQ := Lib.hid hq
  have x0 : W0.cell? ⟨w.heap.size, 0, none⟩ = some (.int .i64 n) := by rw [Lib.cell_of_heap hp]; rfl
  have x1 : W0.cell? ⟨w.heap.size, 1, none⟩ = some (.slice ua bs.length uc) := by rw [Lib.cell_of_heap hp]; rfl
  have hne : ¬ w.heap.size = w.heap.size + 1 := by omega
  have hne2 : ¬ w.heap.size + 1 = w.heap.size := by omega
  clear hW0 hp hq
  go_region_held3 (fun w' => w'.cell? ⟨w.heap.size, 0, none⟩ = some (.int .i64 n) ∧ w'.cell? ⟨w.heap.size, 1, none⟩ = some (.slice ua bs.length uc))
    (first
      | exact kx6
      | exact kx7
      | go_keep)
    ((go_simp; go_at_call 14; refine (bytes_any _ (.slice ua bs.length uc) bs (HU.out.none CA.out.drew) (by omega)).mono ?_; rintro e w7 ⟨g7, c7, rfl, hg7, ho7, hc7⟩; have C7 : Hid (Chg (fun _ => False) W0 w7) := Lib.hid (((Chg.refl _ W0).drew).trans hc7 (fun _ f => f.elim)); have N7 : Hid (w7.ownsRow 0 5 1 (.slice (some ⟨g7, 0, none⟩) bs.length c7) bs.length (bVs bs) ∧ w.heap.size ≤ g7) := Lib.hid ⟨ho7, (by have := CA.out.size; have h3 : W0.heap.size ≤ g7 := hg7; omega)⟩; have kx6 := And.intro (cell_of C7.out x0 (fun f => f)) (cell_of C7.out x1 (fun f => f)); have hq7 := C7.out.get HQ.out (fun f => f); have HQ7 := Lib.hid hq7; have q0 : w7.cell? ⟨w.heap.size + 1, 0, none⟩ = some (.int .i64 0) := (by rw [Lib.cell_of_heap hq7]; rfl); have q1 : w7.cell? ⟨w.heap.size + 1, 1, none⟩ = some (.slice none 0 0) := (by rw [Lib.cell_of_heap hq7]; rfl); have qf0 : w7.frozen? ⟨w.heap.size + 1, 0, none⟩ = false := Lib.frozen_of_heap hq7 0; have qf1 : w7.frozen? ⟨w.heap.size + 1, 1, none⟩ = false := Lib.frozen_of_heap hq7 1; clear hg7 ho7 hc7 hq7))
  all_goals
    go_wp2_with fail
    have D8 : Chg (fun x => x = w.heap.size + 1) w7 ((w7.setCell ⟨w.heap.size + 1, 0, none⟩ (.int .i64 n)).setCell ⟨w.heap.size + 1, 1, none⟩ (.slice (some ⟨g7, 0, none⟩) bs.length c7)) :=
      ((Chg.refl (fun x => x = w.heap.size + 1) w7).setCell (p := ⟨w.heap.size + 1, 0, none⟩) (.inl rfl) _).setCell (p := ⟨w.heap.size + 1, 1, none⟩) (.inl rfl) _
    have hq8 : ((w7.setCell ⟨w.heap.size + 1, 0, none⟩ (.int .i64 n)).setCell ⟨w.heap.size + 1, 1, none⟩ (.slice (some ⟨g7, 0, none⟩) bs.length c7)).heap[w.heap.size + 1]? = some (.cells #[.int .i64 n, .slice (some ⟨g7, 0, none⟩) bs.length c7] 78) := heap_setCell_same _ (heap_setCell_same _ HQ7.out)
    refine bodyPost_ret (res35 (b := w.heap.size + 1) (k := .int .i64 n) (u := .slice (some ⟨g7, 0, none⟩) bs.length c7) (by rfl) (by rw [Lib.cell_of_heap hq8]; rfl) (by rw [Lib.cell_of_heap hq8]; rfl)) rfl ?_
    exact ⟨g7, c7, rfl, ownsRow_chg N7.out.1 D8 (row5_ne N7.out.1 HQ7.out), N7.out.2, ((CA.out.trans C7.out (fun _ f => f.elim)).trans D8 (fun x e => Or.inr (by omega)))⟩

/-- The same at a plain region's list. -/
theorem list_write {wr : World} {ops : Array Oper} {rest : List Oper} {o : Oper} {a : Act} {Q : Exit → Act → World → Prop} (hgd : o.guard = none) (s x : Operand)
    (ho : o.op = .call { callee := .builtin .append, args := #[s, x], argTypes := #[54, 54] }) (v : Value) (qs : List (Nat × List UInt8)) (vs : List Value) (n : Nat) (hvl : vs.length = qs.length) (hn : qs.length = n) (hs : a.eval s = v) (hrow : wr.ownsRow 0 78 2 v n (pcells qs vs)) (q : Nat × List UInt8) (uv : Value)
    (hu : uv.oneCell' = true) (b : Nat) (hb : wr.heap[b]? = some (.cells #[.int .i64 q.1, uv] 78)) (hx : a.eval x = .slice (some ⟨b, 0, none⟩) 1 1) (hl : n ≤ 134217728)
    (h : ∀ g cap w5, w5.ownsRow 0 78 2 (.slice (some ⟨g, 0, none⟩) (n + 1) cap) (n + 1) (pcells qs vs ++ [.int .i64 q.1, uv]) → Chg (fun k => v.ownBlock = some k) wr w5 → (v.ownBlock = some g ∨ g = wr.heap.size) → wpList Tryz.prog ops Q rest (a.put o.dst (.slice (some ⟨g, 0, none⟩) (n + 1) cap)) w5) :
    wpList Tryz.prog ops Q (o :: rest) a wr := by
  obtain ⟨i1, hi', hz0, hz1, hz2⟩ := info_parts info79
  refine wpList_append_lies (P := Tryz.prog) wr hgd s x 54 ho 0 78 i1 _ 2 32 Tryz.underlying54 hi' hz0 hz1 hz2 rfl (by omega) v n (pcells qs vs) hs hrow ⟨b, 0, none⟩ 1 1 [.int .i64 q.1, uv] hx rfl (World.news_of_block (cs := #[.int .i64 q.1, uv]) hb) (fun y hy => ?_) (by omega) (by unfold maxLen; omega) (by omega) (Nat.zero_le _) wr.heap.size rfl ?_
  · simp at hy; rcases hy with rfl | rfl
    · rfl
    · exact hu
  · intro g cap w5 h1 h2 h3 _
    exact h g cap w5 h1 ((Chg.refl (fun k => v.ownBlock = some k) wr).grown h2 (fun k e => .inl e)) h3
theorem takew_snoc {α : Type} {l : List α} {i : Nat} {x : α} (h : l[i]? = some x) : l.take (i + 1) = l.take i ++ [x] := by
  rw [List.take_add_one, h]; rfl

set_option maxRecDepth 100000 in
set_option maxHeartbeats 8000000 in
theorem writes_any (w : World) (v : Value) (ps : List (Nat × List UInt8)) (h : WSees w v ps) (hs : ∀ p ∈ ps, p.2.length ≤ 16777216) (hln : ps.length ≤ 1000000) :
    Calls Tryz.prog 28 #[v] w fun e w' => ∃ v' vs, e = .returned v' ∧ RowW w w' v' vs ps ∧ Chg (fun _ => False) w w' := by
  have HS := Lib.hid hs
  have HP := Lib.hid h
  obtain ⟨a, cap, rfl, hc⟩ := h
  obtain ⟨i1, hi', hz0, hz1, hz2⟩ := info_parts info79
  obtain ⟨B, hB⟩ : ∃ B, B = w.heap.size := ⟨_, rfl⟩
  have HB := Lib.hid hB
  clear hc hs hB
  go_enter Tryz.func28, Tryz.ntmps28
  go_wp2_with (at_make; refine wpList_make_own _ rfl _ _ 54 rfl 0 78 i1 _ 2 Tryz.underlying54 hi' hz0 hz1 .i64 .i64 _ ps.length rfl rfl (by simp) (by rw [hz2]; omega) (by unfold maxLen; omega) (Nat.zero_le _) ?_; intro w1 hown1 hg1; rw [← HB.out] at hown1 ⊢; have HO1 := Lib.hid hown1; have HG1 := Lib.hid hg1; clear hown1 hg1)
  go_loopg [3, 4, 5] ps.length (fun gm mv iv _ wr => ∃ (k : Nat) (vs : List Value), k ≤ ps.length ∧ gm = ps.length - k ∧ iv = .int .i64 k ∧ RowW w wr mv vs (ps.take k) ∧ Chg (fun _ => False) w wr)
  case atStart => exact ⟨0, [], by omega, rfl, rfl, ⟨⟨_, _, rfl⟩, HO1.out, rfl, fun g e => (by have e2 : B = g := (by simpa [Value.ownBlock] using e); have := HB.out; omega), fun j x p h => by simp at h⟩, (Chg.refl _ _).grown HG1.out (fun k e => by cases e)⟩
  case round =>
    obtain ⟨k, vs, hk, hg, rfl, hrow, hch⟩ := hrel
    have Hg := Lib.hid hg
    have HRow := Lib.hid hrow
    have HCh := Lib.hid hch
    have hle : (ps.take k).length = k := by rw [List.length_take]; omega
    obtain ⟨ma, mc, rfl⟩ := hrow.shape
    rw [hle] at HRow
    have HLe := Lib.hid hle
    clear hg hrow hch hle
    rw [HLe.out]
    by_cases hlt : k < ps.length
    · obtain ⟨p, hp⟩ : ∃ p, ps[k]? = some p := ⟨_, List.getElem?_eq_getElem hlt⟩
      have HPk := Lib.hid hp
      have HSm : Hid (p.2.length ≤ 16777216) := Lib.hid (HS.out p (List.mem_of_getElem? hp))
      have hki : (k : Int) < (ps.length : Int) := by omega
      have hk0 : (0 : Int) ≤ (k : Int) := by omega
      clear hp
      obtain ⟨_, _, e1, f1⟩ := HP.out.none HCh.out
      cases e1
      obtain ⟨gg, uv, rfl, ck, cu, su⟩ := f1 k p HPk.out
      have SU := Lib.hid su
      obtain ⟨ua, uc, rfl, _, _⟩ := su
      clear f1
      go_wp2_with fail
      refine (writec_any _ _ _ p.2 SU.out (by have := HSm.out; omega)).mono ?_
      rintro e w3 ⟨g3, c3, rfl, hN, hge, hc3⟩
      have HN : Hid (w3.ownsRow 0 5 1 (.slice (some ⟨g3, 0, none⟩) p.2.length c3) p.2.length (bVs p.2) ∧ ∀ g, (Value.slice (some ⟨g3, 0, none⟩) p.2.length c3).ownBlock = some g → w.heap.size ≤ g) := Lib.hid ⟨hN, fun g e => by cases e; exact Nat.le_trans HCh.out.size hge⟩
      have C3 := Lib.hid hc3
      have HR3 := Lib.hid (HRow.out.chg0 hc3)
      have HO3 : Hid (((w3.alloc (.cells #[.int .i64 p.1, .slice (some ⟨g3, 0, none⟩) p.2.length c3] 78)).alloc (.cells #[.int .i64 p.1, .slice (some ⟨g3, 0, none⟩) p.2.length c3] 78)).ownsRow 0 78 2 (.slice ma k mc) k (pcells (ps.take k) vs)) := Lib.hid (by
        have h1 := HR3.out.row
        rw [HLe.out] at h1
        exact ownsRow_chg h1 (((Chg.refl (fun _ => False) w3).alloc _).alloc _) (fun _ _ f => f))
      clear hN hge hc3 ck cu
      go_wp2_with
        (at_builtin
         refine list_write (by rfl) _ _ (by rfl) (.slice ma k mc) (ps.take k) vs k (by rw [HR3.out.len]) HLe.out (by rfl) HO3.out p (.slice (some ⟨g3, 0, none⟩) p.2.length c3) rfl (w3.heap.size + 1) (heap_alloc_new2 w3 _ _) (by rfl) (by omega) ?_
         intro g5 c5 w5 hr5 hc5 hat5)
      have C5 : Hid (Chg (fun x => (Value.slice ma k mc).ownBlock = some x) w3 w5) := Lib.hid ((((Chg.refl _ w3).alloc _).alloc _).trans hc5 (fun _ h => Or.inl h))
      have HR5 := Lib.hid hr5
      have HA5 := Lib.hid hat5
      clear hr5 hc5 hat5
      go_roundg (ps.length - (k + 1))
      case measure => have := Hg.out; omega
      case rel =>
        have hsz : ((w3.alloc (.cells #[.int .i64 p.1, .slice (some ⟨g3, 0, none⟩) p.2.length c3] 78)).alloc (.cells #[.int .i64 p.1, .slice (some ⟨g3, 0, none⟩) p.2.length c3] 78)).heap.size = w3.heap.size + 1 + 1 := (Array.size_push _).trans (congrArg (· + 1) (Array.size_push _))
        have hw3 : w.heap.size ≤ w3.heap.size := Nat.le_trans HCh.out.size C3.out.size
        have hpush := HR3.out.push (v' := .slice (some ⟨g5, 0, none⟩) (k + 1) c5) (p := p) HN.out ⟨_, _, by rw [HLe.out]⟩ (by rw [HLe.out]; exact HR5.out) (C5.out.mono (fun _ h => h)) (fun g e => by
          simp only [Value.ownBlock, Option.some.injEq] at e
          rcases HA5.out with e2 | e2
          · exact .inl (by rw [← e]; exact e2)
          · right; omega)
        refine ⟨k + 1, _, by omega, rfl, by go_num, by rw [takew_snoc HPk.out]; exact hpush, (HCh.out.trans C3.out (fun _ f => f.elim)).trans C5.out (fun x hx => Or.inr (HRow.out.own x (by exact hx)))⟩
    · have hkn : k = ps.length := by omega
      subst hkn
      clear Hg
      go_wp2_with fail
      go_ret
      have h1 := HRow.out
      refine ⟨_, vs, rfl, ?_, HCh.out⟩
      rw [List.take_length] at h1
      exact h1
end Go.Proofs.YtckioocahmbhkaaGreatDoor
