/- Walks: Pair, Pairs (copies); lent. -/
import Derived.Test.YteejkkidnohcfaaDoorM3
import Derived.Deep.AppendLies
import Derived.Deep.RegionHeld3
import Derived.Deep.RegionWith
namespace Go.Proofs.YteejkkidnohcfaaDoor
open Go Go.RowKit Go.Maps

theorem oneCell_slice {a : Option Addr} {n c : Nat} : (Value.slice a n c).oneCell' = true := rfl
/-- A pair appended, at a step of a region that draws its order. -/
theorem step_pair {wr : World} {ops : Array Oper} {o : Oper} {a : Act} {K : Act → World → Prop} {Q : Exit → Act → World → Prop} {E : Prop} (hgd : o.guard = none) (s x : Operand)
    (ho : o.op = .call { callee := .builtin .append, args := #[s, x], argTypes := #[35, 35] }) (v : Value) (n : Nat) (vs : List (Value × Value)) (hs : a.eval s = v) (hrow : wr.ownsRow 0 44 2 v n (pCells vs)) (kv uv : Value)
    (hk : kv.oneCell' = true) (hu : uv.oneCell' = true) (b : Nat) (hb : wr.heap[b]? = some (.cells #[kv, uv] 44)) (hx : a.eval x = .slice (some ⟨b, 0, none⟩) 1 1) (hl : n ≤ 134217728)
    (h : ∀ g cap w5, w5.ownsRow 0 44 2 (.slice (some ⟨g, 0, none⟩) (n + 1) cap) (n + 1) (pCells (vs ++ [(kv, uv)])) → Chg (fun k => v.ownBlock = some k) wr w5 → (v.ownBlock = some g ∨ g = wr.heap.size) → K (a.put o.dst (.slice (some ⟨g, 0, none⟩) (n + 1) cap)) w5) :
    if Region.wanted o (yielded ops a.tmps) = true then Oper.wp Tryd.prog o a wr K Q else E := by
  obtain ⟨i1, hi', hz0, hz1, hz2⟩ := info_parts info44
  refine step_append_lies (P := Tryd.prog) wr hgd s x 35 ho 0 44 i1 _ 2 48 Tryd.underlying35 hi' hz0 hz1 hz2 rfl (by omega) v n (pCells vs) hs hrow ⟨b, 0, none⟩ 1 1 [kv, uv] hx rfl (World.news_of_block (cs := #[kv, uv]) hb) (fun y hy => ?_) (by omega) (by unfold maxLen; omega) (by omega) (Nat.zero_le _) wr.heap.size rfl ?_
  · simp at hy; rcases hy with rfl | rfl
    · exact hk
    · exact hu
  · intro g cap w5 h1 h2 h3 _
    exact h g cap w5 (by rw [pCells_snoc]; exact h1) ((Chg.refl (fun k => v.ownBlock = some k) wr).grown h2 (fun k e => .inl e)) h3
/-- The same at a plain region's list. -/
theorem list_pair {wr : World} {ops : Array Oper} {rest : List Oper} {o : Oper} {a : Act} {Q : Exit → Act → World → Prop} (hgd : o.guard = none) (s x : Operand)
    (ho : o.op = .call { callee := .builtin .append, args := #[s, x], argTypes := #[35, 35] }) (v : Value) (n : Nat) (vs : List (Value × Value)) (hs : a.eval s = v) (hrow : wr.ownsRow 0 44 2 v n (pCells vs)) (kv uv : Value)
    (hk : kv.oneCell' = true) (hu : uv.oneCell' = true) (b : Nat) (hb : wr.heap[b]? = some (.cells #[kv, uv] 44)) (hx : a.eval x = .slice (some ⟨b, 0, none⟩) 1 1) (hl : n ≤ 134217728)
    (h : ∀ g cap w5, w5.ownsRow 0 44 2 (.slice (some ⟨g, 0, none⟩) (n + 1) cap) (n + 1) (pCells (vs ++ [(kv, uv)])) → Chg (fun k => v.ownBlock = some k) wr w5 → (v.ownBlock = some g ∨ g = wr.heap.size) → wpList Tryd.prog ops Q rest (a.put o.dst (.slice (some ⟨g, 0, none⟩) (n + 1) cap)) w5) :
    wpList Tryd.prog ops Q (o :: rest) a wr := by
  obtain ⟨i1, hi', hz0, hz1, hz2⟩ := info_parts info44
  refine wpList_append_lies (P := Tryd.prog) wr hgd s x 35 ho 0 44 i1 _ 2 48 Tryd.underlying35 hi' hz0 hz1 hz2 rfl (by omega) v n (pCells vs) hs hrow ⟨b, 0, none⟩ 1 1 [kv, uv] hx rfl (World.news_of_block (cs := #[kv, uv]) hb) (fun y hy => ?_) (by omega) (by unfold maxLen; omega) (by omega) (Nat.zero_le _) wr.heap.size rfl ?_
  · simp at hy; rcases hy with rfl | rfl
    · exact hk
    · exact hu
  · intro g cap w5 h1 h2 h3 _
    exact h g cap w5 (by rw [pCells_snoc]; exact h1) ((Chg.refl (fun k => v.ownBlock = some k) wr).grown h2 (fun k e => .inl e)) h3
/-- A byte appended, at a plain region's list. -/
theorem list_byte {wr : World} {ops : Array Oper} {rest : List Oper} {o : Oper} {a : Act} {Q : Exit → Act → World → Prop} (hgd : o.guard = none) (s x : Operand)
    (ho : o.op = .call { callee := .builtin .append, args := #[s, x], argTypes := #[22, 22] }) (v : Value) (n : Nat) (bs : Bytes) (mk : UInt8) (hs : a.eval s = v) (hn : bs.length = n) (hrow : wr.ownsRow 0 5 1 v n (bVs bs))
    (b : Nat) (hb : wr.heap[b]? = some (.cells #[bV mk] 5)) (hx : a.eval x = .slice (some ⟨b, 0, none⟩) 1 1) (hl : n ≤ 1073741824)
    (h : ∀ g cap w5, w5.ownsRow 0 5 1 (.slice (some ⟨g, 0, none⟩) (n + 1) cap) (n + 1) (bVs (bs ++ [mk])) → n + 1 ≤ cap → Chg (fun k => v.ownBlock = some k) wr w5 → (v.ownBlock = some g ∨ g = wr.heap.size) → wpList Tryd.prog ops Q rest (a.put o.dst (.slice (some ⟨g, 0, none⟩) (n + 1) cap)) w5) :
    wpList Tryd.prog ops Q (o :: rest) a wr := by
  obtain ⟨i1, hi', hz0, hz1, hz2⟩ := info_parts info5
  refine wpList_append_lies (P := Tryd.prog) wr hgd s x 22 ho 0 5 i1 _ 1 1 Tryd.underlying22 hi' hz0 hz1 hz2 rfl (by omega) v n (bVs bs) hs hrow ⟨b, 0, none⟩ 1 1 [bV mk] hx rfl (World.news_of_block (cs := #[bV mk]) hb) (fun y hy => ?_) (by omega) (by unfold maxLen; omega) (by omega) (Nat.zero_le _) wr.heap.size rfl ?_
  · simp at hy; subst hy; rfl
  · intro g cap w5 h1 h2 h3 _
    refine h g cap w5 (by rw [show bVs (bs ++ [mk]) = bVs bs ++ [bV mk] by simp [bVs]]; exact h1) ?_ ((Chg.refl (fun k => v.ownBlock = some k) wr).grown h2 (fun k e => .inl e)) h3
    obtain ⟨a, c, e, h4, _⟩ := ownsRow_slice h1
    cases e; exact h4

set_option maxRecDepth 100000 in
set_option maxHeartbeats 8000000 in
theorem lent_any (w : World) (v : Value) (ps : List PairB) (h : SeesP w v ps) (hs : SmallP ps) :
    Calls Tryd.prog 18 #[v] w fun e w' => ∃ v' vs, e = .returned v' ∧ LentR w w' v' vs ps ∧ Chg (fun _ => False) w w' := by
  have HS := Lib.hid hs
  have HP := Lib.hid h
  obtain ⟨a, cap, rfl, hn, hc⟩ := h
  have Hn := Lib.hid hn
  have hln := hs.len
  clear hn hc hs
  go_enter Tryd.func18, Tryd.ntmps18
  go_wp2_with fail
  go_loopg [3, 4, 5, 6] ps.length (fun gm mv iv _ _ wr => ∃ (k : Nat) (vs : List (Value × Value)) (ma : Option Addr) (mc : Nat), k ≤ ps.length ∧ gm = ps.length - k ∧ iv = .int .i64 k ∧ mv = .slice ma k mc ∧ wr.ownsRow 0 44 2 (.slice ma k mc) k (pCells vs) ∧ (∀ g, (Value.slice ma k mc).ownBlock = some g → w.heap.size ≤ g) ∧ LentC w wr vs (ps.take k) ∧ Chg (fun _ => False) w wr)
  case atStart => exact ⟨0, [], none, 0, by omega, rfl, rfl, rfl, World.ownsRow_nil _ _ _ _, fun g e => (by simp [Value.ownBlock] at e), LentC.nil _ _, Chg.refl _ _⟩
  case round =>
    obtain ⟨k, vs, ma, mc, hk, hg, rfl, rfl, hrow, hown, hcore, hch⟩ := hrel
    have Hg := Lib.hid hg
    have HRow := Lib.hid hrow
    have HOwn := Lib.hid hown
    have HCore := Lib.hid hcore
    have HCh := Lib.hid hch
    clear hg hrow hown hcore hch
    by_cases hlt : k < ps.length
    · obtain ⟨p, hp⟩ : ∃ p, ps[k]? = some p := ⟨_, List.getElem?_eq_getElem hlt⟩
      have HPk := Lib.hid hp
      have HSm : Hid (p.1.length ≤ 16777216 ∧ p.2.length ≤ 16777216) := Lib.hid (HS.out.key p (List.mem_of_getElem? hp))
      have hki : (k : Int) < (ps.length : Int) := by omega
      have hk0 : (0 : Int) ≤ (k : Int) := by omega
      clear hp
      cases a with
      | none => have := Hn.out rfl; subst this; simp at hlt
      | some ad =>
        obtain ⟨_, _, e1, _, f1⟩ := HP.out.chg0 HCh.out
        cases e1
        obtain ⟨kv, uv, ck, cu, sk, su⟩ := f1 ad rfl k p HPk.out
        have cu' : wr.cell? ⟨(ad.add (k * 2)).block, (ad.add (k * 2)).off + 1, none⟩ = some uv := by
          have h3 : wr.cell? ((ad.add (k * 2)).add 1) = some uv := by rw [add_add]; exact cu
          exact h3
        have SK := Lib.hid sk
        have SU := Lib.hid su
        obtain ⟨ka, kc, rfl, _, _⟩ := sk
        obtain ⟨ua, uc, rfl, _, _⟩ := su
        clear cu f1
        go_wp2_with fail
        refine (bytes_any _ _ p.1 SK.out (by have := HSm.out.1; omega)).mono ?_
        rintro e w1 ⟨g1, c1, rfl, hg1, hown1, hc1⟩
        have HG1 := Lib.hid hg1
        have HO1 := Lib.hid (ownsRow_chg hown1 ((Chg.refl (fun _ => False) w1).alloc (.cells #[.int .u8 201] 5)) (fun _ _ f => f))
        have C1 := Lib.hid hc1
        clear hg1 hown1 hc1
        have n1 : p.1.length ≤ 1073741824 := by have := HSm.out.1; omega
        have n2 : p.2.length ≤ 1073741824 := by have := HSm.out.2; omega
        go_wp2_with
          (at_builtin
           refine list_byte (by rfl) _ _ (by rfl) (.slice (some ⟨g1, 0, none⟩) p.1.length c1) p.1.length p.1 201 (by rfl) rfl HO1.out w1.heap.size (heap_alloc_new w1 _) (by rfl) n1 ?_
           intro g2 c2 w2 hr2 hcap2 hc2 hat2
           have C2 := Lib.hid ((C1.out.alloc (.cells #[.int .u8 201] 5)).trans hc2 (fun x e => .inr (by simp only [Value.ownBlock, Option.some.injEq] at e; have := HG1.out; omega)))
           have HR2 := Lib.hid hr2
           have HA2 : Hid (wr.heap.size ≤ g2) := Lib.hid (by rcases hat2 with e | e; (simp only [Value.ownBlock, Option.some.injEq] at e; have := HG1.out; omega); (have := C1.out.size; have e2 : (w1.alloc (.cells #[.int .u8 201] 5)).heap.size = w1.heap.size + 1 := Array.size_push _; omega))
           have SU2 := Lib.hid (SU.out.chg0 C2.out)
           have x1 := cell_chg C2.out ck (fun f => f)
           have x2 := cell_chg C2.out cu' (fun f => f)
           clear hr2 hc2 hat2 ck cu')
        refine (bytes_any _ _ p.2 SU2.out (by omega)).mono ?_
        rintro e w3 ⟨g3, c3, rfl, hg3, hown3, hc3⟩
        have HG3 := Lib.hid hg3
        have HO3 := Lib.hid (ownsRow_chg hown3 ((Chg.refl (fun _ => False) w3).alloc (.cells #[.int .u8 202] 5)) (fun _ _ f => f))
        have C3 := Lib.hid hc3
        clear hg3 hown3 hc3
        go_wp2_with
          (at_builtin
           refine list_byte (by rfl) _ _ (by rfl) (.slice (some ⟨g3, 0, none⟩) p.2.length c3) p.2.length p.2 202 (by rfl) rfl HO3.out w3.heap.size (heap_alloc_new w3 _) (by rfl) n2 ?_
           intro g4 c4 w4 hr4 hcap4 hc4 hat4
           have D4 := Lib.hid ((C3.out.alloc (.cells #[.int .u8 202] 5)).trans hc4 (fun x e => .inr (by simp only [Value.ownBlock, Option.some.injEq] at e; have := HG3.out; omega)))
           have C4 := Lib.hid (C2.out.trans D4.out (fun _ f => f.elim))
           have HR4 := Lib.hid hr4
           have HA4 : Hid (w2.heap.size ≤ g4) := Lib.hid (by rcases hat4 with e | e; (simp only [Value.ownBlock, Option.some.injEq] at e; have := HG3.out; omega); (have := C3.out.size; have e2 : (w3.alloc (.cells #[.int .u8 202] 5)).heap.size = w3.heap.size + 1 := Array.size_push _; omega))
           have y1 := cell_chg D4.out x1 (fun f => f)
           have y2 := cell_chg D4.out x2 (fun f => f)
           clear hr4 hc4 hat4 x1 x2)
        have hadw : ad.block < w.heap.size := by
          obtain ⟨_, _, e0, _, f0⟩ := HP.out
          cases e0
          obtain ⟨k0, u0, c0, _⟩ := f0 ad rfl k p HPk.out
          have h := World.block_lt_of_cell? _ _ c0
          rwa [block_add] at h
        have HNe : Hid (∀ b, b = ad.block → ¬ (Value.slice ma k mc).ownBlock = some b) := Lib.hid (fun b e h => by have := HOwn.out b h; omega)
        have HRow4 := Lib.hid (ownsRow_chg HRow.out C4.out (fun _ _ f => f))
        have b1 : (p.1.length : Int) ≤ (c2 : Int) := by omega
        have b2 : (p.2.length : Int) ≤ (c4 : Int) := by omega
        have b3 : (0 : Int) ≤ (p.1.length : Int) := by omega
        have b4 : (0 : Int) ≤ (p.2.length : Int) := by omega
        clear hadw
        go_region_held3 (fun w' => w'.cell? (ad.add (k * 2)) = some (.slice ka p.1.length kc) ∧ w'.cell? ⟨(ad.add (k * 2)).block, (ad.add (k * 2)).off + 1, none⟩ = some (.slice ua p.2.length uc))
          (first
            | exact kx5
            | go_keep)
          ((refine step_pair (wr := (w4.alloc (.cells #[.slice (some ⟨g2, 0, none⟩) p.1.length c2, .slice (some ⟨g4, 0, none⟩) p.2.length c4] 44)).drew) (by rfl) _ _ (by rfl) (.slice ma k mc) k vs (by rfl) (ownsRow_chg HRow4.out (((Chg.refl (fun _ => False) w4).alloc _).drew) (fun _ _ f => f)) (.slice (some ⟨g2, 0, none⟩) p.1.length c2) (.slice (some ⟨g4, 0, none⟩) p.2.length c4) rfl rfl w4.heap.size (heap_alloc_new w4 _) (by rfl) (by omega) ?_; intro g5 c5 w5 hr5 hc5 hat5; have HR5 := Lib.hid hr5; have C5 := Lib.hid hc5; have HA5 := Lib.hid hat5; have kx5 := And.intro (cell_chg ((((Chg.refl (fun k_1 => (Value.slice ma k mc).ownBlock = some k_1) w4).alloc _).drew).trans hc5 (fun _ h => Or.inl h)) y1 (HNe.out _ (block_add _ _))) (cell_chg ((((Chg.refl (fun k_1 => (Value.slice ma k mc).ownBlock = some k_1) w4).alloc _).drew).trans hc5 (fun _ h => Or.inl h)) y2 (HNe.out _ (block_add _ _))); clear hr5 hc5 hat5))
        all_goals
          go_wp2_with fail
          go_roundg (ps.length - (k + 1))
          case measure => have := Hg.out; omega
          case rel =>
            have D5 : Chg (fun x => (Value.slice ma k mc).ownBlock = some x) w4 w5 := (((Chg.refl _ w4).alloc _).drew).trans C5.out (fun _ h => Or.inl h)
            have hne5 : ∀ g cs fz, w4.heap[g]? = some (.cells cs 5 fz) → ¬ (Value.slice ma k mc).ownBlock = some g := row44_ne HRow4.out
            have L2 : Lent1 w4 (.slice (some ⟨g2, 0, none⟩) p.1.length c2) p.1 201 g2 := ⟨c2, rfl, hcap2, ownsRow_chg HR2.out D4.out (fun _ _ f => f)⟩
            have L4 : Lent1 w4 (.slice (some ⟨g4, 0, none⟩) p.2.length c4) p.2 202 g4 := ⟨c4, rfl, hcap4, HR4.out⟩
            have hg24 : g2 < g4 := by
              have h1 : g2 < w2.heap.size := row_lt HR2.out g2 rfl
              have := HA4.out; omega
            have hcore4 := (HCore.out.chg0 C4.out).push L2 L4 (Nat.le_trans HCh.out.size HA2.out) hg24 HA2.out (fun j x hx g hg => HCore.out.bound j x hx g hg)
            refine ⟨k + 1, vs ++ [(.slice (some ⟨g2, 0, none⟩) p.1.length c2, .slice (some ⟨g4, 0, none⟩) p.2.length c4)], some ⟨g5, 0, none⟩, c5, by omega, rfl, by go_num, rfl, HR5.out, ?_, ?_, ?_⟩
            · intro g e
              simp only [Value.ownBlock, Option.some.injEq] at e
              subst e
              rcases HA5.out with e2 | e2
              · exact HOwn.out _ e2
              · have h4 : w.heap.size ≤ w4.heap.size := Nat.le_trans HCh.out.size C4.out.size
                have e3 : (w4.alloc (.cells #[.slice (some ⟨g2, 0, none⟩) p.1.length c2, .slice (some ⟨g4, 0, none⟩) p.2.length c4] 44)).drew.heap.size = w4.heap.size + 1 := Array.size_push _
                omega
            · rw [take_snoc HPk.out]
              exact hcore4.chg D5 hne5
            · exact (HCh.out.trans C4.out (fun _ f => f.elim)).trans D5 (fun x hx => Or.inr (HOwn.out x hx))
    · have hkn : k = ps.length := by omega
      subst hkn
      have HT : Hid (ps.take ps.length = ps) := Lib.hid List.take_length
      rw [HT.out] at HCore
      have HR3 := Lib.hid (ownsRow_chg HRow.out (((Chg.refl (fun _ => False) wr).alloc (.cells #[.int .u8 203] 5)).alloc (.cells #[.slice (some ⟨wr.heap.size, 0, none⟩) 1 1, .slice none 0 0] 44)) (fun _ _ f => f))
      clear Hg
      go_wp2_with
        (at_builtin
         refine list_pair (by rfl) _ _ (by rfl) (.slice ma ps.length mc) ps.length vs (by rfl) HR3.out (.slice (some ⟨wr.heap.size, 0, none⟩) 1 1) (.slice none 0 0) rfl rfl (wr.heap.size + 1) (heap_alloc_new2 wr _ _) (by rfl) (by omega) ?_
         intro g5 c5 w5 hr5 hc5 hat5
         have hcap5 : ps.length + 1 ≤ c5 := (by obtain ⟨_, _, e, h4, _⟩ := ownsRow_slice hr5; cases e; exact h4)
         have hci : (ps.length : Int) ≤ (c5 : Int) := by omega
         have hc0 : (0 : Int) ≤ (ps.length : Int) := by omega)
      have HC5 := Lib.hid hc5
      have HR5 := Lib.hid hr5
      have HA5 := Lib.hid hat5
      clear hr5 hc5 hat5
      go_ret
      have hsz : ((wr.alloc (.cells #[.int .u8 203] 5)).alloc (.cells #[.slice (some ⟨wr.heap.size, 0, none⟩) 1 1, .slice none 0 0] 44)).heap.size = wr.heap.size + 1 + 1 := (Array.size_push _).trans (congrArg (· + 1) (Array.size_push _))
      have D5 : Chg (fun x => (Value.slice ma ps.length mc).ownBlock = some x) wr w5 := (((Chg.refl _ wr).alloc _).alloc _).trans HC5.out (fun _ h => Or.inl h)
      have hne5 : ∀ g cs fz, wr.heap[g]? = some (.cells cs 5 fz) → ¬ (Value.slice ma ps.length mc).ownBlock = some g := row44_ne HRow.out
      have hrl : ∀ g, (Value.slice ma ps.length mc).ownBlock = some g → g < wr.heap.size := row_lt HRow.out
      have hgw : w.heap.size ≤ g5 ∧ g5 ≠ wr.heap.size := by
        rcases HA5.out with e | e
        · exact ⟨HOwn.out _ e, by have := hrl _ e; omega⟩
        · have := HCh.out.size; omega
      refine ⟨_, vs, rfl, ⟨⟨g5, c5, wr.heap.size, rfl, hcap5, hgw.1, HR5.out, HCh.out.size, fun j x hx => ?_, hgw.2, ?_⟩, HCore.out.chg D5 hne5⟩, HCh.out.trans D5 (fun x hx => Or.inr (HOwn.out x hx))⟩
      · have hj := (List.getElem?_eq_some_iff.1 hx).1
        obtain ⟨g1, g2, l1, l2, _⟩ := HCore.out.bytes j x _ hx (List.getElem?_eq_getElem (by rw [← HCore.out.len]; exact hj))
        exact ⟨fun e => by rw [l2.own] at e; cases e; exact absurd l2.lt (Nat.lt_irrefl _), fun e => by rw [l1.own] at e; cases e; exact absurd l1.lt (Nat.lt_irrefl _)⟩
      · have h1 := (heap_alloc_keep (.cells #[.slice (some ⟨wr.heap.size, 0, none⟩) 1 1, .slice none 0 0] 44) (heap_alloc_new wr (.cells #[.int .u8 203] 5)))
        have h2 := HC5.out.get h1 (fun e => by have := hrl _ e; omega)
        rw [Lib.cell_of_heap h2]; rfl
end Go.Proofs.YteejkkidnohcfaaDoor
