/- Words and walks that other texts of this seat hold, taken together. (Taken by pick.py.) -/
import Derived.Test.YteejkkidnohcfaaGreatDoorW11
import Derived.Test.YteejkkidnohcfaaGreatDoorW9
import Derived.Deep.AppendLies
import Derived.Deep.RegionHeld3
import Derived.Deep.RegionWith
namespace Go.Proofs.YteejkkidnohcfaaGreatDoor
open Go Go.RowKit Go.Maps

theorem oneCell_slice {a : Option Addr} {n c : Nat} : (Value.slice a n c).oneCell' = true := rfl

/-- The same at a plain region's list. -/
theorem list_pair {wr : World} {ops : Array Oper} {rest : List Oper} {o : Oper} {a : Act} {Q : Exit → Act → World → Prop} (hgd : o.guard = none) (s x : Operand)
    (ho : o.op = .call { callee := .builtin .append, args := #[s, x], argTypes := #[22, 22] }) (v : Value) (n : Nat) (vs : List (Value × Value)) (hs : a.eval s = v) (hrow : wr.ownsRow 0 54 2 v n (pCells vs)) (kv uv : Value)
    (hk : kv.oneCell' = true) (hu : uv.oneCell' = true) (b : Nat) (hb : wr.heap[b]? = some (.cells #[kv, uv] 54)) (hx : a.eval x = .slice (some ⟨b, 0, none⟩) 1 1) (hl : n ≤ 134217728)
    (h : ∀ g cap w5, w5.ownsRow 0 54 2 (.slice (some ⟨g, 0, none⟩) (n + 1) cap) (n + 1) (pCells (vs ++ [(kv, uv)])) → Chg (fun k => v.ownBlock = some k) wr w5 → (v.ownBlock = some g ∨ g = wr.heap.size) → wpList Tryz.prog ops Q rest (a.put o.dst (.slice (some ⟨g, 0, none⟩) (n + 1) cap)) w5) :
    wpList Tryz.prog ops Q (o :: rest) a wr := by
  obtain ⟨i1, hi', hz0, hz1, hz2⟩ := info_parts info44
  refine wpList_append_lies (P := Tryz.prog) wr hgd s x 22 ho 0 54 i1 _ 2 48 Tryz.underlying22 hi' hz0 hz1 hz2 rfl (by omega) v n (pCells vs) hs hrow ⟨b, 0, none⟩ 1 1 [kv, uv] hx rfl (World.news_of_block (cs := #[kv, uv]) hb) (fun y hy => ?_) (by omega) (by unfold maxLen; omega) (by omega) (Nat.zero_le _) wr.heap.size rfl ?_
  · simp at hy; rcases hy with rfl | rfl
    · exact hk
    · exact hu
  · intro g cap w5 h1 h2 h3 _
    exact h g cap w5 (by rw [pCells_snoc]; exact h1) ((Chg.refl (fun k => v.ownBlock = some k) wr).grown h2 (fun k e => .inl e)) h3

theorem res38 {w : World} {tmps : Array Value} {b : Nat} {k u : Value} (h6 : tmps[2]?.getD undef = .pointer (some ⟨b, 0, none⟩)) (c0 : w.cell? ⟨b, 0, none⟩ = some k) (c1 : w.cell? ⟨b, 1, none⟩ = some u) :
    (results Tryz.f44 tmps).run Tryz.prog w = .ok (.agg #[k, u]) w := by
  simp [results, Tryz.results44, go_sem, h6, c0, c1]

theorem row5_ne {w : World} {B n sz b : Nat} {v : Value} {xs : List Value} {cs : Array Value} {fz : Nat × Nat} (h : w.ownsRow B 5 sz v n xs) (hb : w.heap[b]? = some (.cells cs 54 fz)) : ∀ g, v.ownBlock = some g → ¬ g = b := by
  rintro g e rfl
  rcases h.2 with ⟨q, _⟩ | ⟨g1, c1, cur1, q, _, hh1, _⟩
  · rw [q] at e; simp [Value.ownBlock] at e
  · rw [q] at e; simp only [Value.ownBlock, Option.some.injEq] at e
    subst e
    rw [hb] at hh1
    injection hh1 with h3
    injection h3 with _ h5
    exact absurd h5 (by decide)

set_option maxRecDepth 100000 in
set_option maxHeartbeats 8000000 in
theorem pairc_any (w : World) (kv uv : Value) (p : PairB) (hk : SeesB w kv p.1) (hu : SeesB w uv p.2) (h1 : p.1.length ≤ 1073741824) (h2 : p.2.length ≤ 1073741824) :
    Calls Tryz.prog 44 #[.agg #[kv, uv]] w fun e w' => ∃ kv' uv', e = .returned (.agg #[kv', uv']) ∧ NewRow w w' kv' p.1 ∧ NewRow w w' uv' p.2 ∧ Chg (fun _ => False) w w' := by
  have HK := Lib.hid hk
  have HU := Lib.hid hu
  obtain ⟨ka, kc, rfl, _, _⟩ := hk
  obtain ⟨ua, uc, rfl, _, _⟩ := hu
  go_enter Tryz.func44, Tryz.ntmps44
  go_wp2_with fail
  obtain ⟨W0, hW0⟩ : ∃ W0, W0 = (w.alloc (.cells #[.slice ka p.1.length kc, .slice ua p.2.length uc] 54)).alloc (.cells #[.slice none 0 0, .slice none 0 0] 54) := ⟨_, rfl⟩
  rw [← hW0]
  have CA : Hid (Chg (fun _ => False) w W0) := Lib.hid (by rw [hW0]; exact ((Chg.refl _ w).alloc _).alloc _)
  have hp : W0.heap[w.heap.size]? = some (.cells #[.slice ka p.1.length kc, .slice ua p.2.length uc] 54) := by rw [hW0]; exact heap_alloc_keep _ (heap_alloc_new w _)
  have hq : W0.heap[w.heap.size + 1]? = some (.cells #[.slice none 0 0, .slice none 0 0] 54) := by rw [hW0]; exact heap_alloc_new2 w _ _
  have HP := Lib.hid hp
  have HQ := Lib.hid hq
  have x0 : W0.cell? ⟨w.heap.size, 0, none⟩ = some (.slice ka p.1.length kc) := by rw [Lib.cell_of_heap hp]; rfl
  have x1 : W0.cell? ⟨w.heap.size, 1, none⟩ = some (.slice ua p.2.length uc) := by rw [Lib.cell_of_heap hp]; rfl
  have hne : ¬ w.heap.size = w.heap.size + 1 := by omega
  have hne2 : ¬ w.heap.size + 1 = w.heap.size := by omega
  clear hW0 hp hq
  go_region_held3 (fun w' => w'.cell? ⟨w.heap.size, 0, none⟩ = some (.slice ka p.1.length kc) ∧ w'.cell? ⟨w.heap.size, 1, none⟩ = some (.slice ua p.2.length uc))
    (first
      | exact kx6
      | exact kx7
      | exact kx8
      | go_keep)
    (first
      | (go_simp; go_at_call 26; refine (bytes_any _ (.slice ua p.2.length uc) p.2 (HU.out.chg0 (CA.out.trans C6.out (fun _ f => f.elim))) (by omega)).mono ?_; rintro e w7 ⟨g7, c7, rfl, hg7, ho7, hc7⟩; have C7 := Lib.hid (C6.out.trans hc7 (fun _ f => f.elim)); have N6 := Lib.hid (NewRow.chg0 (w := w) NK6.out hc7); have N7 : Hid (NewRow w w7 (.slice (some ⟨g7, 0, none⟩) p.2.length c7) p.2) := Lib.hid ⟨⟨_, _, rfl⟩, ho7, fun g e => (by simp only [Value.ownBlock, Option.some.injEq] at e; have := CA.out.size; have := C6.out.size; omega)⟩; have kx7 := And.intro (cell_chg hc7 kx6.1 (fun f => f)) (cell_chg hc7 kx6.2 (fun f => f)); have hq7 := hc7.get HQ6.out (fun f => f); have HQ7 := Lib.hid hq7; have q0 : w7.cell? ⟨w.heap.size + 1, 0, none⟩ = some (.slice none 0 0) := (by rw [Lib.cell_of_heap hq7]; rfl); have q1 : w7.cell? ⟨w.heap.size + 1, 1, none⟩ = some (.slice none 0 0) := (by rw [Lib.cell_of_heap hq7]; rfl); have qf0 : w7.frozen? ⟨w.heap.size + 1, 0, none⟩ = false := Lib.frozen_of_heap hq7 0; have qf1 : w7.frozen? ⟨w.heap.size + 1, 1, none⟩ = false := Lib.frozen_of_heap hq7 1; clear hg7 ho7 hc7 hq7)
      | (go_simp; go_at_call 26; refine (bytes_any _ (.slice ka p.1.length kc) p.1 (HK.out.chg0 CA.out.drew) (by omega)).mono ?_; rintro e w6 ⟨g6, c6, rfl, hg6, ho6, hc6⟩; have C6 : Hid (Chg (fun _ => False) W0 w6) := Lib.hid (((Chg.refl _ W0).drew).trans hc6 (fun _ f => f.elim)); have NK6 : Hid (NewRow w w6 (.slice (some ⟨g6, 0, none⟩) p.1.length c6) p.1) := Lib.hid ⟨⟨_, _, rfl⟩, ho6, fun g e => (by simp only [Value.ownBlock, Option.some.injEq] at e; have := CA.out.size; have h3 : W0.heap.size ≤ g6 := hg6; omega)⟩; have HQ6 := Lib.hid (C6.out.get HQ.out (fun f => f)); have kx6 := And.intro (cell_chg C6.out x0 (fun f => f)) (cell_chg C6.out x1 (fun f => f)); clear hg6 ho6 hc6))
  all_goals
    go_wp2_with fail
    have D8 : Chg (fun x => x = w.heap.size + 1) w7 ((w7.setCell ⟨w.heap.size + 1, 0, none⟩ (.slice (some ⟨g6, 0, none⟩) p.1.length c6)).setCell ⟨w.heap.size + 1, 1, none⟩ (.slice (some ⟨g7, 0, none⟩) p.2.length c7)) :=
      ((Chg.refl (fun x => x = w.heap.size + 1) w7).setCell (p := ⟨w.heap.size + 1, 0, none⟩) (.inl rfl) _).setCell (p := ⟨w.heap.size + 1, 1, none⟩) (.inl rfl) _
    have hq8 : ((w7.setCell ⟨w.heap.size + 1, 0, none⟩ (.slice (some ⟨g6, 0, none⟩) p.1.length c6)).setCell ⟨w.heap.size + 1, 1, none⟩ (.slice (some ⟨g7, 0, none⟩) p.2.length c7)).heap[w.heap.size + 1]? = some (.cells #[.slice (some ⟨g6, 0, none⟩) p.1.length c6, .slice (some ⟨g7, 0, none⟩) p.2.length c7] 54) := heap_setCell_same _ (heap_setCell_same _ HQ7.out)
    refine bodyPost_ret (res38 (b := w.heap.size + 1) (k := .slice (some ⟨g6, 0, none⟩) p.1.length c6) (u := .slice (some ⟨g7, 0, none⟩) p.2.length c7) (by rfl) (by rw [Lib.cell_of_heap hq8]; rfl) (by rw [Lib.cell_of_heap hq8]; rfl)) rfl ?_
    refine ⟨_, _, rfl, N6.out.chg D8 (row5_ne N6.out.2.1 HQ7.out), N7.out.chg D8 (row5_ne N7.out.2.1 HQ7.out), ((CA.out.trans C7.out (fun _ f => f.elim)).trans D8 (fun x e => Or.inr (by omega)))⟩

set_option maxRecDepth 100000 in
set_option maxHeartbeats 8000000 in
theorem pairs_any (w : World) (v : Value) (ps : List PairB) (h : SeesP w v ps) (hs : SmallP ps) :
    Calls Tryz.prog 24 #[v] w fun e w' => ∃ v' vs, e = .returned v' ∧ RowL w w' v' vs ps ∧ Chg (fun _ => False) w w' := by
  have HS := Lib.hid hs
  have HP := Lib.hid h
  obtain ⟨a, cap, rfl, hn, hc⟩ := h
  have Hn := Lib.hid hn
  have hln := hs.len
  obtain ⟨i1, hi', hz0, hz1, hz2⟩ := info_parts info44
  obtain ⟨B, hB⟩ : ∃ B, B = w.heap.size := ⟨_, rfl⟩
  have HB := Lib.hid hB
  clear hn hc hs hB
  go_enter Tryz.func24, Tryz.ntmps24
  go_wp2_with (at_make; refine wpList_make_own _ rfl _ _ 22 rfl 0 54 i1 _ 2 Tryz.underlying22 hi' hz0 hz1 .i64 .i64 _ ps.length rfl rfl (by simp) (by rw [hz2]; omega) (by unfold maxLen; omega) (Nat.zero_le _) ?_; intro w1 hown1 hg1; rw [← HB.out] at hown1 ⊢; have HO1 := Lib.hid hown1; have HG1 := Lib.hid hg1; clear hown1 hg1)
  go_loopg [3, 4, 5] ps.length (fun gm mv iv _ wr => ∃ (k : Nat) (vs : List (Value × Value)), k ≤ ps.length ∧ gm = ps.length - k ∧ iv = .int .i64 k ∧ RowL w wr mv vs (ps.take k) ∧ Chg (fun _ => False) w wr)
  case atStart => exact ⟨0, [], by omega, rfl, rfl, ⟨⟨_, _, rfl⟩, HO1.out, rfl, fun g e => (by have e2 : B = g := (by simpa [Value.ownBlock] using e); have := HB.out; omega), fun j x p h => by simp at h⟩, (Chg.refl _ _).grown HG1.out (fun k e => by cases e)⟩
  case round =>
    obtain ⟨k, vs, hk, hg, rfl, hrow, hch⟩ := hrel
    have Hg := Lib.hid hg
    have HRow := Lib.hid hrow
    have HCh := Lib.hid hch
    have hle : (ps.take k).length = k := by rw [List.length_take]; omega
    obtain ⟨ma, mc, rfl⟩ := hrow.shape
    rw [hle] at HRow
    have HLe := Lib.hid hle
    clear hg hrow hch hle
    rw [HLe.out]
    by_cases hlt : k < ps.length
    · obtain ⟨p, hp⟩ : ∃ p, ps[k]? = some p := ⟨_, List.getElem?_eq_getElem hlt⟩
      have HPk := Lib.hid hp
      have HSm : Hid (p.1.length ≤ 16777216 ∧ p.2.length ≤ 16777216) := Lib.hid (HS.out.key p (List.mem_of_getElem? hp))
      have hki : (k : Int) < (ps.length : Int) := by omega
      have hk0 : (0 : Int) ≤ (k : Int) := by omega
      clear hp
      cases a with
      | none => have := Hn.out rfl; subst this; simp at hlt
      | some ad =>
        obtain ⟨_, _, e1, _, f1⟩ := HP.out.chg0 HCh.out
        cases e1
        obtain ⟨kv, uv, ck, cu, sk, su⟩ := f1 ad rfl k p HPk.out
        have cu' : wr.cell? ⟨(ad.add (k * 2)).block, (ad.add (k * 2)).off + 1, none⟩ = some uv := by
          have h3 : wr.cell? ((ad.add (k * 2)).add 1) = some uv := by rw [add_add]; exact cu
          exact h3
        have SK := Lib.hid sk
        have SU := Lib.hid su
        obtain ⟨ka, kc, rfl, _, _⟩ := sk
        obtain ⟨ua, uc, rfl, _, _⟩ := su
        clear cu f1
        go_wp2_with fail
        refine (pairc_any _ _ _ p SK.out SU.out (by have := HSm.out.1; omega) (by have := HSm.out.2; omega)).mono ?_
        rintro e w3 ⟨kv', uv', rfl, hN1, hN2, hc3⟩
        obtain ⟨k1, k2, rfl⟩ := hN1.1
        obtain ⟨u1, u2, rfl⟩ := hN2.1
        have HN1 := Lib.hid (hN1.since (w0 := w) HCh.out.size)
        have HN2 := Lib.hid (hN2.since (w0 := w) HCh.out.size)
        have C3 := Lib.hid hc3
        have HR3 := Lib.hid (HRow.out.chg0 hc3)
        have HO3 : Hid (((w3.alloc (.cells #[.slice k1 p.1.length k2, .slice u1 p.2.length u2] 54)).alloc (.cells #[.slice k1 p.1.length k2, .slice u1 p.2.length u2] 54)).ownsRow 0 54 2 (.slice ma k mc) k (pCells vs)) := Lib.hid (by
          have h1 := HR3.out.row
          rw [HLe.out] at h1
          exact ownsRow_chg h1 (((Chg.refl (fun _ => False) w3).alloc _).alloc _) (fun _ _ f => f))
        clear hN1 hN2 hc3 ck cu'
        go_wp2_with
          (at_builtin
           refine list_pair (by rfl) _ _ (by rfl) (.slice ma k mc) k vs (by rfl) HO3.out (.slice k1 p.1.length k2) (.slice u1 p.2.length u2) rfl rfl (w3.heap.size + 1) (heap_alloc_new2 w3 _ _) (by rfl) (by omega) ?_
           intro g5 c5 w5 hr5 hc5 hat5)
        have C5 : Hid (Chg (fun x => (Value.slice ma k mc).ownBlock = some x) w3 w5) := Lib.hid ((((Chg.refl _ w3).alloc _).alloc _).trans hc5 (fun _ h => Or.inl h))
        have HR5 := Lib.hid hr5
        have HA5 := Lib.hid hat5
        clear hr5 hc5 hat5
        go_roundg (ps.length - (k + 1))
        case measure => have := Hg.out; omega
        case rel =>
          have hsz : ((w3.alloc (.cells #[.slice k1 p.1.length k2, .slice u1 p.2.length u2] 54)).alloc (.cells #[.slice k1 p.1.length k2, .slice u1 p.2.length u2] 54)).heap.size = w3.heap.size + 1 + 1 := (Array.size_push _).trans (congrArg (· + 1) (Array.size_push _))
          have hw3 : w.heap.size ≤ w3.heap.size := Nat.le_trans HCh.out.size C3.out.size
          have hpush := HR3.out.push (v' := .slice (some ⟨g5, 0, none⟩) (k + 1) c5) (p := p) HN1.out HN2.out ⟨_, _, by rw [HLe.out]⟩ (by rw [HLe.out]; have h := HR5.out; rw [pCells_snoc] at h; exact h) (C5.out.mono (fun _ h => h)) (fun g e => by
            simp only [Value.ownBlock, Option.some.injEq] at e
            rcases HA5.out with e2 | e2
            · exact .inl (by rw [← e]; exact e2)
            · right; omega)
          refine ⟨k + 1, _, by omega, rfl, by go_num, by rw [take_snoc HPk.out]; exact hpush, (HCh.out.trans C3.out (fun _ f => f.elim)).trans C5.out (fun x hx => Or.inr (HRow.out.own x (by exact hx)))⟩
    · have hkn : k = ps.length := by omega
      subst hkn
      clear Hg
      go_wp2_with fail
      go_ret
      have h1 := HRow.out
      refine ⟨_, vs, rfl, ?_, HCh.out⟩
      rw [List.take_length] at h1
      exact h1

end Go.Proofs.YteejkkidnohcfaaGreatDoor
