/- The document's pool: New. -/
import Derived.Test.YtipclbibomemjaaV6
namespace Go.Proofs.Ytipclbibomemjaa
open Go Go.RowKit Go.Maps

theorem step_free {wr : World} {ops : Array Oper} {o : Oper} {a : Act} {K : Act → World → Prop} {Q : Exit → Act → World → Prop} {E : Prop} (hgd : o.guard = none) (s x : Operand)
    (ho : o.op = .call { callee := .builtin .append, args := #[s, x], argTypes := #[62, 62] }) (v : Value) (L : List (Nat × Int)) (hs : a.eval s = v) (hrow : wr.ownsRow 0 76 2 v L.length (frow L)) (y : Nat) (z : Int)
    (hx : a.eval x = .slice (some ⟨wr.heap.size, 0, none⟩) 1 1) (hl : L.length ≤ 3000000)
    (h : ∀ g cap w5, w5.ownsRow 0 76 2 (.slice (some ⟨g, 0, none⟩) (L.length + 1) cap) (L.length + 1) (frow (L ++ [(y, z)])) → Chg (fun k => v.ownBlock = some k) wr w5 → (v.ownBlock = some g ∨ wr.heap.size < g) → K (a.put o.dst (.slice (some ⟨g, 0, none⟩) (L.length + 1) cap)) w5) :
    if Region.wanted o (yielded ops a.tmps) = true then Oper.wp Try.prog o a (wr.alloc (.cells #[.int .i64 y, .int .i64 z] 76)) K Q else E := by
  obtain ⟨i1, hi', hz0, hz1, hz2⟩ := info_parts info76
  refine step_append_lies _ hgd s x 62 ho 0 76 i1 _ 2 16 Try.underlying62 hi' hz0 hz1 hz2 rfl (by omega) v L.length (frow L) hs (hrow.alloc _) ⟨wr.heap.size, 0, none⟩ 1 1 [.int .i64 y, .int .i64 z] hx (by rfl) (World.news_of_block (cs := #[.int .i64 y, .int .i64 z]) (t := 76) (fr := (0, 0)) (heap_alloc_new wr _)) (by simp [Value.oneCell']) (by omega) (by unfold maxLen; omega) (by omega) (Nat.zero_le _) (wr.heap.size + 1) (Array.size_push _) ?_
  intro g cap w5 h1 h2 h3 _
  refine h g cap w5 (by rw [frow_append]; exact h1) (((Chg.refl (fun k => v.ownBlock = some k) wr).alloc _).grown h2 (fun k e => .inl e)) (h3.imp id (fun e => by omega))

theorem RF.setFree {w w1 : World} {rb : Nat} {P : PS} {lv lv' pv : Value} {L : List (Nat × Int)} {S : Nat → Prop} (h : RF w rb P lv pv) (hc : Chg S w w1) (h0 : ¬ S rb) (h1 : ∀ g, pv.ownBlock = some g → ¬ S g)
    (hr : w1.ownsRow 0 76 2 lv' L.length (frow L)) (hn : ∀ g, lv'.ownBlock = some g → g ≠ rb ∧ pv.ownBlock ≠ some g) : RF (w1.setCell ⟨rb, 2, none⟩ lv') rb { P with free := L } lv' pv := by
  have hc2 : Chg (fun k => k = rb) w1 (w1.setCell ⟨rb, 2, none⟩ lv') := chg1 _
  refine ⟨by rw [heap_setCell_same _ (hc.get h.blk h0)]; rfl, ownsRow_chg hr hc2 (fun g e f => (hn g e).1 f), ownsRow_chg (ownsRow_chg h.pn hc h1) hc2 (fun g e f => ?_), fun e => (hn rb e).1 rfl, h.np, fun g e => (hn g e).2⟩
  have : g = rb := f
  subst this
  exact h.np e

/-- The document's pool P at rb; its blocks. -/
structure RfAt (w : World) (T : Nat → Prop) (rb : Nat) (P : PS) : Prop where
  f : ∃ lv pv, RF w rb P lv pv ∧ (∀ g, lv.ownBlock = some g → T g) ∧ ∀ g, pv.ownBlock = some g → T g
  str : T rb
  lt : ∀ k, T k → k < w.heap.size
structure TStep (w : World) (T : Nat → Prop) (w' : World) (T' : Nat → Prop) : Prop where
  chg : Chg T w w'
  sub : ∀ k, T' k → T k ∨ w.heap.size ≤ k
theorem TStep.refl (w : World) (T : Nat → Prop) : TStep w T w T := ⟨Chg.refl _ _, fun _ h => .inl h⟩
theorem TStep.trans {w w' w'' : World} {T T' T'' : Nat → Prop} (h : TStep w T w' T') (k : TStep w' T' w'' T'') : TStep w T w'' T'' :=
  ⟨h.chg.trans k.chg (fun x e => h.sub x e), fun x e => (k.sub x e).elim (h.sub x) (fun e => .inr (Nat.le_trans h.chg.size e))⟩
theorem RfAt.chg {S T : Nat → Prop} {w w' : World} {rb : Nat} {P : PS} (h : RfAt w T rb P) (hc : Chg S w w') (hs : ∀ k, T k → ¬ S k) : RfAt w' T rb P := by
  obtain ⟨lv, pv, hF, h1, h2⟩ := h.f
  exact ⟨⟨lv, pv, hF.chg hc (hs _ h.str) (fun g e => hs g (h1 g e)) (fun g e => hs g (h2 g e)), h1, h2⟩, h.str, fun k e => Nat.lt_of_lt_of_le (h.lt k e) hc.size⟩

theorem rnew_lies (w : World) (count cap : Nat) : RF (w.alloc (.cells #[.int .i64 count, .int .i64 cap, .slice none 0 0, .slice none 0 0] 64)) w.heap.size { size := count, cap := cap, free := [], pins := [], wr := 0 } (.slice none 0 0) (.slice none 0 0) :=
  ⟨heap_alloc_new w _, World.ownsRow_nil _ _ _ _, World.ownsRow_nil _ _ _ _, (fun e => by cases e), (fun e => by cases e), (fun g e => by cases e)⟩

set_option maxRecDepth 100000 in
theorem rnew_no (w : World) (v : Value) (zs : List Int) (h : SeesI w v zs) (count cap : Int) (hl : zs.length ≤ 1000000) (hno : ¬ newOk count cap zs) :
    Calls Try.prog 28 #[.int .i64 count, .int .i64 cap, v] w fun e w' => e = .returned (.pointer none) ∧ Chg (fun _ => False) w w' := by
  have HS := Lib.hid h
  obtain ⟨a, c, rfl, _⟩ := h
  unfold newOk at hno
  by_cases h1 : count < 2
  · clear hno
    go_enter Try.func28, Try.ntmps28
    go_wp2
    go_ret
    exact ⟨rfl, Chg.refl _ _⟩
  · by_cases h2 : cap < count
    · clear hno
      go_enter Try.func28, Try.ntmps28
      go_wp2
      go_ret
      exact ⟨rfl, Chg.refl _ _⟩
    · by_cases h3 : 524287 < cap
      · clear hno
        go_enter Try.func28, Try.ntmps28
        go_wp2
        go_ret
        exact ⟨rfl, Chg.refl _ _⟩
      · have hr : riseK count 1 zs = false := by
          cases e : riseK count 1 zs with
          | false => rfl
          | true => exact (hno ⟨by omega, by omega, by omega, e⟩).elim
        have HR := Lib.hid hr
        clear hno hr
        go_enter Try.func28, Try.ntmps28
        go_wp2_with (go_at_call 42; refine (rises_any _ _ zs HS.out _ hl).mono ?_; rintro e w' ⟨rfl, hc⟩; rw [HR.out])
        go_ret
        exact ⟨rfl, hc⟩

set_option maxRecDepth 100000 in
set_option maxHeartbeats 4000000 in
theorem rnew_yes (w : World) (v : Value) (zs : List Int) (h : SeesI w v zs) (count cap : Int) (hl : zs.length ≤ 1000000) (hyes : newOk count cap zs) :
    Calls Try.prog 28 #[.int .i64 count, .int .i64 cap, v] w fun e w' => ∃ rb T, e = .returned (.pointer (some ⟨rb, 0, none⟩)) ∧ RfAt w' T rb (PS.new count cap zs) ∧ Chg (fun _ => False) w w' ∧ ∀ k, T k → w.heap.size ≤ k := by
  have HS := Lib.hid h
  obtain ⟨a, c, rfl, hn, _⟩ := h
  have Hn := Lib.hid hn
  obtain ⟨h1, h2, h3, h4⟩ := hyes
  obtain ⟨n, rfl⟩ : ∃ n : Nat, count = n := ⟨count.toNat, by omega⟩
  obtain ⟨cp, rfl⟩ : ∃ n : Nat, cap = n := ⟨cap.toNat, by omega⟩
  have HR := Lib.hid h4
  have t1 : ¬ (n : Int) < 2 := by omega
  have t2 : ¬ (cp : Int) < (n : Int) := by omega
  have t3 : ¬ (524287 : Int) < (cp : Int) := by omega
  clear hn h4
  go_enter Try.func28, Try.ntmps28
  go_wp2_with (first
    | (go_at_call 42; refine (rises_any _ _ zs HS.out _ hl).mono ?_; rintro e wa ⟨rfl, hca⟩; rw [HR.out]; have HCA := Lib.hid hca; clear hca)
    | fail)
  have HL := Lib.hid (rnew_lies wa n cp)
  have HC0 : Hid (Chg (fun _ => False) w (wa.alloc (.cells #[.int .i64 n, .int .i64 cp, .slice none 0 0, .slice none 0 0] 64))) := Lib.hid (HCA.out.alloc _)
  obtain ⟨rb, hrb⟩ : ∃ rb, rb = wa.heap.size := ⟨_, rfl⟩
  have HRB : Hid (w.heap.size ≤ rb) := Lib.hid (by rw [hrb]; exact HCA.out.size)
  rw [← hrb] at HL
  rw [← hrb]
  clear hrb
  go_loopg [8] zs.length (fun gm iv wr => ∃ (k : Nat) (lv : Value), k ≤ zs.length ∧ gm = zs.length - k ∧ iv = .int .i64 k ∧ RF wr rb { size := n, cap := cp, free := back (zs.take k) 0, pins := [], wr := 0 } lv (.slice none 0 0) ∧ Chg (fun _ => False) w wr ∧ ∀ g, lv.ownBlock = some g → w.heap.size ≤ g)
  case atStart => exact ⟨0, .slice none 0 0, by omega, rfl, rfl, HL.out, HC0.out, fun g e => by cases e⟩
  case round =>
    obtain ⟨k, lv, hk, hg, rfl, hF, hch, hlv⟩ := hrel
    have Hg := Lib.hid hg
    have HF := Lib.hid hF
    have HCh := Lib.hid hch
    have HLv := Lib.hid hlv
    obtain ⟨la, lc, rfl, _, _, _⟩ := ownsRow_slice hF.fr
    obtain ⟨_, _, c2, _, cf⟩ := hF.cells
    have f2 := cf 2
    have hlen : (back (zs.take k) 0).length = k := by rw [back_length, List.length_take]; omega
    change wr.cell? ⟨rb, 2, none⟩ = some (.slice la (back (zs.take k) 0).length lc) at c2
    have HF' : Hid (RF wr rb { size := n, cap := cp, free := back (zs.take k) 0, pins := [], wr := 0 } (.slice la k lc) (.slice none 0 0)) := Lib.hid (by have := hF; change RF wr rb _ (.slice la (back (zs.take k) 0).length lc) _ at this; rw [hlen] at this; exact this)
    have HLv' : Hid (∀ g, (Value.slice la k lc).ownBlock = some g → w.heap.size ≤ g) := Lib.hid (fun g e => hlv g (by cases la <;> exact e))
    rw [hlen] at c2
    have Hlen := Lib.hid hlen
    have hlt0 := hF.lt
    clear hF hlv cf hg hlen HF HLv
    by_cases hlt : k < zs.length
    · obtain ⟨x, hx⟩ : ∃ x, zs[k]? = some x := ⟨_, List.getElem?_eq_getElem hlt⟩
      have hxm := List.mem_of_getElem? hx
      obtain ⟨hx2, hx3⟩ := (riseK_facts HR.out).2 x hxm
      obtain ⟨m, rfl⟩ : ∃ m : Nat, x = m := ⟨x.toNat, by omega⟩
      obtain ⟨ad, rfl⟩ : ∃ ad, a = some ad := by
        cases a with
        | none => have := Hn.out rfl; subst this; simp at hlt
        | some ad => exact ⟨ad, rfl⟩
      have cx : wr.cell? (ad.add k) = some (.int .i64 m) := by
        obtain ⟨a4, c4, e4, _, h4⟩ := HS.out.chg0 hch
        cases e4
        exact h4 ad rfl k m hx
      have HX := Lib.hid hx
      have hki : (k : Int) < (zs.length : Int) := by omega
      have hk0 : (0 : Int) ≤ (k : Int) := by omega
      have HFd := Lib.hid (HF'.out.chg0 (Chg.refl (fun _ => False) wr).drew)
      have HRow : Hid (wr.drew.ownsRow 0 76 2 (.slice la k lc) (back (zs.take k) 0).length (frow (back (zs.take k) 0))) := Lib.hid HFd.out.fr
      clear hx hxm hch
      go_wp2_with fail
      go_region_law
        (first
          | (refine step_free (by rfl) _ _ (by rfl) (.slice la k lc) (back (zs.take k) 0) (by rfl) (HRow.out) m 0 (by rfl) (by rw [Hlen.out]; omega) ?_; intro g5 cap5 w5 hr5 hc5 hat5; have HR5 := Lib.hid hr5; have HC5 := Lib.hid hc5; have HA5 := Lib.hid hat5; have d5 : w5.cell? ⟨rb, 2, none⟩ = some (.slice la k lc) := (by have := hc5.get HFd.out.blk (fun e => HFd.out.nl e); simp [World.cell?, this]); have f5 : w5.frozen? ⟨rb, 2, none⟩ = false := (by have := hc5.get HFd.out.blk (fun e => HFd.out.nl e); simp [World.frozen?, this]); clear hr5 hc5 hat5))
      all_goals
        go_wp2_with fail
        go_roundg (zs.length - (k + 1))
        case measure => have := Hg.out; omega
        case rel =>
          have hb : back (zs.take (k + 1)) 0 = back (zs.take k) 0 ++ [(m, 0)] := back_snoc 0 HX.out
          have hcd : Chg (fun x => (Value.slice la k lc).ownBlock = some x) wr w5 := ((Chg.refl _ wr).drew).trans HC5.out (fun x e => .inl e)
          have hg5 : w.heap.size ≤ g5 ∧ g5 ≠ rb := by
            rcases HA5.out with e | e
            · exact ⟨HLv'.out _ e, fun e2 => HFd.out.nl (e2 ▸ e)⟩
            · have h1 := HCh.out.size
              have h2 : wr.heap.size < g5 := e
              omega
          refine ⟨k + 1, .slice (some ⟨g5, 0, none⟩) ((back (zs.take k) 0).length + 1) cap5, by omega, rfl, by go_num, ?_, (HCh.out.news hcd HLv'.out).setCell (p := ⟨rb, 2, none⟩) (.inr HRB.out) _, fun g e => ?_⟩
          · exact HFd.out.setFree (L := back (zs.take (k + 1)) 0) HC5.out HFd.out.nl (fun g e => by cases e) (by rw [hb, List.length_append]; exact HR5.out) (fun g e => ⟨fun e2 => by have e3 : some g5 = some g := e; injection e3 with e4; exact hg5.2 (e4.trans e2), fun e2 => by cases e2⟩)
          · have e3 : some g5 = some g := e
            injection e3 with e4
            rw [← e4]; exact hg5.1
    · have hkz : zs.length = k := by omega
      have HE : Hid (RF wr rb (PS.new n cp zs) (.slice la k lc) (.slice none 0 0)) := Lib.hid (by have := HF'.out; rw [List.take_of_length_le (by omega)] at this; exact this)
      clear hkz hch
      go_wp2_with fail
      go_ret
      refine ⟨rb, rfl, fun x => x = rb ∨ (Value.slice la k lc).ownBlock = some x, ⟨⟨_, _, HE.out, fun g e => .inr e, fun g e => by cases e⟩, .inl rfl, fun x e => ?_⟩, HCh.out, fun x e => ?_⟩
      · rcases e with e | e
        · rw [e]; exact HE.out.lt
        · exact ownsRow_lt HE.out.fr e
      · rcases e with e | e
        · rw [e]; exact HRB.out
        · exact HLv'.out x e
end Go.Proofs.Ytipclbibomemjaa
