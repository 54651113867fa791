/- Walks: Count, Pin, Unpin, rise. -/
import Derived.Test.YtipclbibomemjaaGreatDoorD1
import Derived.Deep.LoopGhost
import Derived.Outline
namespace Go.Proofs.YtipclbibomemjaaGreatDoor
open Go Go.RowKit Go.Maps

theorem cell_chg {S : Nat → Prop} {w w' : World} {b o : Nat} (h : Chg S w w') (hb : b < w.heap.size) (hs : ¬ S b) : w'.cell? ⟨b, o, none⟩ = w.cell? ⟨b, o, none⟩ := World.cell?_of_block (w := w) (h.block b hb hs)
theorem zero3 (w : World) : (zeroValue 3).run Tryz.prog w = .ok (.int .i64 0) w := by kernel_rfl

theorem ownsMap_tight {w : World} {b n : Nat} {M : DataW Unit} (h : w.ownsMap Tryz.prog 3 RI b n M) : w.ownsMap Tryz.prog 3 RI b (Maps.size M) M := by
  obtain ⟨es, clock, h1, h2, _, h4⟩ := h
  refine ⟨es, clock, h1, h2, ?_, h4⟩
  rw [h4, Maps.size_eq, length_read]
  exact Nat.le_refl _

/-- The pool P at pb, its maps at m1, m2. -/
structure PoolF (w : World) (pb m1 m2 : Nat) (P : PS) : Prop where
  blk : w.heap[pb]? = some (.cells #[.int .i64 P.size, .int .i64 P.cap, .map (some m1), .map (some m2)] 64)
  fr : ∃ M, w.ownsMap Tryz.prog 3 RI m1 P.free.length M ∧ FreeOf M P.free
  pn : ∃ M, w.ownsMap Tryz.prog 3 RI m2 P.wr M ∧ PinsOf M P.pins
  ne : m1 ≠ m2
  n1 : m1 ≠ pb
  n2 : m2 ≠ pb

theorem PoolF.chg {S : Nat → Prop} {w w' : World} {pb m1 m2 : Nat} {P : PS} (h : PoolF w pb m1 m2 P) (hc : Chg S w w') (h0 : ¬ S pb) (h1 : ¬ S m1) (h2 : ¬ S m2) : PoolF w' pb m1 m2 P := by
  obtain ⟨M1, a1, b1⟩ := h.fr
  obtain ⟨M2, a2, b2⟩ := h.pn
  exact ⟨hc.get h.blk h0, ⟨M1, ownsMap_chg a1 hc h1, b1⟩, ⟨M2, ownsMap_chg a2 hc h2, b2⟩, h.ne, h.n1, h.n2⟩
theorem PoolF.chg0 {w w' : World} {pb m1 m2 : Nat} {P : PS} (h : PoolF w pb m1 m2 P) (hc : Chg (fun _ => False) w w') : PoolF w' pb m1 m2 P := h.chg hc (fun f => f) (fun f => f) (fun f => f)
theorem PoolF.cells {w : World} {pb m1 m2 : Nat} {P : PS} (h : PoolF w pb m1 m2 P) : w.cell? ⟨pb, 0, none⟩ = some (.int .i64 P.size) ∧ w.cell? ⟨pb, 1, none⟩ = some (.int .i64 P.cap) ∧ w.cell? ⟨pb, 2, none⟩ = some (.map (some m1)) ∧ w.cell? ⟨pb, 3, none⟩ = some (.map (some m2)) ∧ ∀ i, w.frozen? ⟨pb, i, none⟩ = false := by
  refine ⟨?_, ?_, ?_, ?_, fun i => by simp [World.frozen?, h.blk]⟩ <;> simp [World.cell?, h.blk]
theorem PoolF.lt {w : World} {pb m1 m2 : Nat} {P : PS} (h : PoolF w pb m1 m2 P) : pb < w.heap.size ∧ m1 < w.heap.size ∧ m2 < w.heap.size := by
  obtain ⟨M1, a1, b1⟩ := h.fr
  obtain ⟨M2, a2, b2⟩ := h.pn
  exact ⟨heap_lt h.blk, a1.lt, a2.lt⟩

/-- The blocks of a pool. -/
def PB (pb m1 m2 : Nat) (k : Nat) : Prop := k = pb ∨ k = m1 ∨ k = m2

theorem count_any (w : World) (pb m1 m2 : Nat) (P : PS) (h : PoolF w pb m1 m2 P) : Calls Tryz.prog 20 #[.pointer (some ⟨pb, 0, none⟩)] w fun e w' => e = .returned (.int .i64 P.size) ∧ w = w' := by
  obtain ⟨c0, _⟩ := h.cells
  go_enter Tryz.func20, Tryz.ntmps20
  go_wp2
  go_ret
  exact ⟨rfl, rfl⟩

theorem wfI {x : Int} (h1 : -9223372036854775808 ≤ x) (h2 : x ≤ 9223372036854775807) : (Lit.int .i64 x).wf = true := WalkArith.wf_i64 (by omega)

theorem wrap_small {x : Int} (h1 : -9223372036854775808 ≤ x) (h2 : x ≤ 9223372036854775807) : wrap64 x = x := by
  first | exact wrap64_eq_of_range h1 h2 | (unfold wrap64; omega)

set_option maxRecDepth 100000 in
theorem pin_any (w : World) (pb m1 m2 : Nat) (P : PS) (h : PoolF w pb m1 m2 P) (hw : P.wr < 1000000) (hp : P.pins.length < 1000000) (x : Int) (hx : (Lit.int .i64 x).wf = true) :
    Calls Tryz.prog 9 #[.pointer (some ⟨pb, 0, none⟩), .int .i64 x] w fun e w' => e = .returned (.tuple #[]) ∧ PoolF w' pb m1 m2 { P with pins := P.pins ++ [x], wr := P.wr + 1 } ∧ Chg (fun k => k = m2) w w' := by
  obtain ⟨c0, c1, c2, c3, _⟩ := h.cells
  have H := Lib.hid h
  have Hx := Lib.hid hx
  obtain ⟨M2, hown, hM⟩ := h.pn
  have HM := Lib.hid hM
  have hcl : P.pins.count x ≤ P.pins.length := List.count_le_length
  clear h hx hM
  go_enter Tryz.func9, Tryz.ntmps9
  go_wp2_with (first
    | (at_lookup; refine wpList_lookup_own_int _ rfl _ _ 62 rfl 3 3 .i64 law3 Tryz.underlying62 Tryz.underlying3 (zero3 _) m2 P.wr M2 rfl hown _ _ rfl (keyOf_int_mk Tryz.underlying3 Hx.out) ?_; intro c hat hwc)
    | (at_mapUpdate; refine wpList_mapUpdate_own _ rfl _ _ _ 62 rfl 3 3 law3 Tryz.underlying62 _ m2 P.wr M2 rfl hown (by unfold maxLen; omega) _ _ _ rfl rfl (keyOf_int_mk Tryz.underlying3 Hx.out) _ [] (plainElem_int Tryz.underlying3 (wrap64_wf _)) ?_; intro w1 hown1 hgrow1)
    | go_in)
  have hc : c = (P.pins.count x : Int) := by
    have := (HM.out.at' x).symm.trans hat
    cases this; rfl
  subst hc
  have hc1 : Chg (fun k => k = m2) w w1 := (Chg.refl _ w).grown hgrow1 (fun k e => .inl (by cases e; rfl))
  rw [wrap_small (by omega) (by omega)] at hown1
  go_end0
  obtain ⟨M1, a1, b1⟩ := H.out.fr
  exact ⟨rfl, ⟨hc1.get H.out.blk (fun e => H.out.n2 e.symm), ⟨M1, ownsMap_chg a1 hc1 H.out.ne, b1⟩, ⟨_, hown1, HM.out.pin x⟩, H.out.ne, H.out.n1, H.out.n2⟩, hc1⟩

set_option maxRecDepth 100000 in
theorem unpin_any (w : World) (pb m1 m2 : Nat) (P : PS) (h : PoolF w pb m1 m2 P) (hw : P.wr < 1000000) (hp : P.pins.length < 1000000) (x : Int) (hx : (Lit.int .i64 x).wf = true) :
    Calls Tryz.prog 10 #[.pointer (some ⟨pb, 0, none⟩), .int .i64 x] w fun e w' => e = .returned (.bool (decide (x ∈ P.pins))) ∧ PoolF w' pb m1 m2 { P with pins := P.pins.erase x, wr := P.wr + 1 } ∧ Chg (fun k => k = m2) w w' := by
  obtain ⟨c0, c1, c2, c3, _⟩ := h.cells
  have H := Lib.hid h
  have Hx := Lib.hid hx
  obtain ⟨M2, hown, hM⟩ := h.pn
  have HM := Lib.hid hM
  have hcl : P.pins.count x ≤ P.pins.length := List.count_le_length
  obtain ⟨n, hn⟩ : ∃ n, n = P.pins.count x := ⟨_, rfl⟩
  have Hn := Lib.hid hn
  have hat0 := hM.at' x
  rw [← hn] at hat0 hcl
  have hat := Lib.hid hat0
  clear h hx hM hn hat0
  by_cases h0 : n = 0
  · have hn0 : ((n : Int) == 0) = true := by rw [beq_iff_eq]; omega
    go_enter Tryz.func10, Tryz.ntmps10
    go_wp2_with (first
      | (at_lookup; refine wpList_lookup_own_int _ rfl _ _ 62 rfl 3 3 .i64 law3 Tryz.underlying62 Tryz.underlying3 (zero3 _) m2 P.wr M2 rfl hown _ _ rfl (keyOf_int_mk Tryz.underlying3 Hx.out) ?_; intro c hat' hwc; obtain rfl : c = (n : Int) := (by have := hat.out.symm.trans hat'; cases this; rfl); clear hat' hwc)
      | go_in)
    go_ret
    have hx0 : x ∉ P.pins := List.count_eq_zero.1 (by rw [← Hn.out]; exact h0)
    obtain ⟨M1, a1, b1⟩ := H.out.fr
    refine ⟨by rw [decide_eq_false hx0]; rfl, ⟨H.out.blk, ⟨M1, a1, b1⟩, ⟨M2, hown.mono (Nat.le_succ _), ?_⟩, H.out.ne, H.out.n1, H.out.n2⟩, Chg.refl _ _⟩
    rw [List.erase_of_not_mem hx0]; exact HM.out
  · have hxin : Hid (x ∈ P.pins) := Lib.hid (List.count_pos_iff.1 (by have := Hn.out; omega))
    have hn0 : ((n : Int) == 0) = false := by rw [beq_eq_false_iff_ne]; omega
    by_cases h1 : n = 1
    · have hn1 : ((n : Int) - 1 == 0) = true := by rw [beq_iff_eq]; omega
      have H1 := Lib.hid h1
      have hn9 : 1 ≤ n := by omega
      clear h1 h0
      go_enter Tryz.func10, Tryz.ntmps10
      go_wp2_with (first
        | (at_lookup; refine wpList_lookup_own_int _ rfl _ _ 62 rfl 3 3 .i64 law3 Tryz.underlying62 Tryz.underlying3 (zero3 _) m2 P.wr M2 rfl hown _ _ rfl (keyOf_int_mk Tryz.underlying3 Hx.out) ?_; intro c hat' hwc; obtain rfl : c = (n : Int) := (by have := hat.out.symm.trans hat'; cases this; rfl); clear hat' hwc)
        | (at_mapUpdate; refine wpList_mapUpdate_own _ rfl _ _ _ 62 rfl 3 3 law3 Tryz.underlying62 _ m2 P.wr M2 rfl hown (by unfold maxLen; omega) _ _ _ rfl rfl (keyOf_int_mk Tryz.underlying3 Hx.out) _ [] (plainElem_int Tryz.underlying3 (WalkArith.wf_i64 (by omega))) ?_; intro w1 hown1 hgrow1; have hc1 : Chg (fun k => k = m2) w w1 := (Chg.refl _ w).grown hgrow1 (fun k e => .inl (by cases e; rfl)); have d3 : w1.cell? ⟨pb, 3, none⟩ = some (.map (some m2)) := (cell_chg hc1 (World.block_lt_of_cell? _ _ c3) (fun e => H.out.n2 e.symm)).trans c3; have HOWN1 := Lib.hid hown1; clear hgrow1 hown1)
        | (at_lookup; refine wpList_lookup_own_int _ rfl _ _ 62 rfl 3 3 .i64 law3 Tryz.underlying62 Tryz.underlying3 (zero3 _) m2 (P.wr + 1) _ rfl HOWN1.out _ _ rfl (keyOf_int_mk Tryz.underlying3 Hx.out) ?_; intro c hat' hwc; obtain rfl : c = (n : Int) - 1 := (by rw [atKey_put_same HM.out.tidy.isMap (isKey _)] at hat'; cases hat'; rfl); clear hat' hwc)
        | (at_delete; refine wpList_delete_own _ rfl _ _ 62 3 rfl 3 law3 Tryz.underlying62 _ m2 (P.wr + 1) _ rfl HOWN1.out _ _ rfl (keyOf_int_mk Tryz.underlying3 Hx.out) ?_; intro w2 hown2 hturn2; have HOWN2 := Lib.hid hown2; have hc2 : Chg (fun k => k = m2) w w2 := hc1.grown hturn2.grown (fun k e => .inl (by cases e; rfl)); clear hown2 hturn2)
        | go_in)
      go_ret
      obtain ⟨M1, a1, b1⟩ := H.out.fr
      refine ⟨by rw [decide_eq_true hxin.out]; rfl, ⟨hc2.get H.out.blk (fun e => H.out.n2 e.symm), ⟨M1, ownsMap_chg a1 hc2 H.out.ne, b1⟩, ⟨_, HOWN2.out, HM.out.last x (by rw [← Hn.out]; exact H1.out) _⟩, H.out.ne, H.out.n1, H.out.n2⟩, hc2⟩
    · have hn1 : ((n : Int) - 1 == 0) = false := by rw [beq_eq_false_iff_ne]; omega
      go_enter Tryz.func10, Tryz.ntmps10
      go_wp2_with (first
        | (at_lookup; refine wpList_lookup_own_int _ rfl _ _ 62 rfl 3 3 .i64 law3 Tryz.underlying62 Tryz.underlying3 (zero3 _) m2 P.wr M2 rfl hown _ _ rfl (keyOf_int_mk Tryz.underlying3 Hx.out) ?_; intro c hat' hwc; obtain rfl : c = (n : Int) := (by have := hat.out.symm.trans hat'; cases this; rfl); clear hat' hwc)
        | (at_mapUpdate; refine wpList_mapUpdate_own _ rfl _ _ _ 62 rfl 3 3 law3 Tryz.underlying62 _ m2 P.wr M2 rfl hown (by unfold maxLen; omega) _ _ _ rfl rfl (keyOf_int_mk Tryz.underlying3 Hx.out) _ [] (plainElem_int Tryz.underlying3 (WalkArith.wf_i64 (by omega))) ?_; intro w1 hown1 hgrow1; have hc1 : Chg (fun k => k = m2) w w1 := (Chg.refl _ w).grown hgrow1 (fun k e => .inl (by cases e; rfl)); have d3 : w1.cell? ⟨pb, 3, none⟩ = some (.map (some m2)) := (cell_chg hc1 (World.block_lt_of_cell? _ _ c3) (fun e => H.out.n2 e.symm)).trans c3; have HOWN1 := Lib.hid hown1; clear hgrow1 hown1)
        | (at_lookup; refine wpList_lookup_own_int _ rfl _ _ 62 rfl 3 3 .i64 law3 Tryz.underlying62 Tryz.underlying3 (zero3 _) m2 (P.wr + 1) _ rfl HOWN1.out _ _ rfl (keyOf_int_mk Tryz.underlying3 Hx.out) ?_; intro c hat' hwc; obtain rfl : c = (n : Int) - 1 := (by rw [atKey_put_same HM.out.tidy.isMap (isKey _)] at hat'; cases hat'; rfl); clear hat' hwc)
        | go_in)
      go_ret
      obtain ⟨M1, a1, b1⟩ := H.out.fr
      refine ⟨by rw [decide_eq_true hxin.out]; rfl, ⟨hc1.get H.out.blk (fun e => H.out.n2 e.symm), ⟨M1, ownsMap_chg a1 hc1 H.out.ne, b1⟩, ⟨_, HOWN1.out, ?_⟩, H.out.ne, H.out.n1, H.out.n2⟩, hc1⟩
      have := HM.out.unpin x (by rw [← Hn.out]; omega)
      rw [← Hn.out, show ((n - 1 : Nat) : Int) = (n : Int) - 1 by omega] at this
      exact this

/-- Numbers that can be read. -/
def SeesI (w : World) (v : Value) (zs : List Int) : Prop :=
  ∃ a cap, v = .slice a zs.length cap ∧ (a = none → zs = []) ∧ ∀ ad, a = some ad → ∀ (j : Nat) (x : Int), zs[j]? = some x → w.cell? (ad.add j) = some (.int .i64 x)
theorem SeesI.chg {w w' : World} {v : Value} {zs : List Int} {S : Nat → Prop} (h : SeesI w v zs) (hc : Chg S w w') (hs : ∀ ad n c, v = .slice (some ad) n c → zs ≠ [] → ¬ S ad.block) : SeesI w' v zs := by
  obtain ⟨a, cap, rfl, h1, h2⟩ := h
  refine ⟨a, cap, rfl, h1, fun ad e j x hx => ?_⟩
  have h3 := h2 ad e j x hx
  have hne : zs ≠ [] := fun e => by rw [e] at hx; simp at hx
  have hbk : (ad.add j).block = ad.block := by unfold Addr.add; split <;> rfl
  have hlt := World.block_lt_of_cell? _ _ h3
  subst e
  exact (World.cell?_of_block (w := w) (w' := w') (a := ad.add j) (by rw [hbk] at hlt ⊢; exact hc.block _ hlt (hs ad _ _ rfl hne))).trans h3
theorem SeesI.chg0 {w w' : World} {v : Value} {zs : List Int} (h : SeesI w v zs) (hc : Chg (fun _ => False) w w') : SeesI w' v zs := h.chg hc (fun _ _ _ _ _ f => f)

/-- Do numbers rise, above last, below count? -/
def riseK (count : Int) : Int → List Int → Bool
  | _, [] => true
  | last, n :: l => if n ≤ last ∨ count ≤ n then false else riseK count n l

set_option maxRecDepth 100000 in
theorem rise_any (w : World) (v : Value) (zs : List Int) (h : SeesI w v zs) (count : Int) (hl : zs.length ≤ 9223372036854775807) :
    Calls Tryz.prog 21 #[v, .int .i64 count] w fun e w' => e = .returned (.bool (riseK count 1 zs)) ∧ w = w' := by
  obtain ⟨a, c, rfl, hn, hc⟩ := h
  have Hn := Lib.hid hn
  have Hc := Lib.hid hc
  clear hn hc
  go_enter Tryz.func21, Tryz.ntmps21
  go_wp2_with fail
  go_loopg [5, 7, 10] zs.length (fun gm lv nv iv wr => ∃ (k : Nat) (last : Int), k ≤ zs.length ∧ gm = zs.length - k ∧ iv = .int .i64 k ∧ lv = .int .i64 last ∧ w = wr ∧ riseK count last (zs.drop k) = riseK count 1 zs)
  case atStart => exact ⟨0, 1, by omega, rfl, rfl, rfl, rfl, rfl⟩
  case round =>
    obtain ⟨k, last, hk, hg, rfl, rfl, rfl, hr⟩ := hrel
    have Hg := Lib.hid hg
    have Hr := Lib.hid hr
    clear hg hr
    by_cases hlt : k < zs.length
    · obtain ⟨x, hx⟩ : ∃ x, zs[k]? = some x := ⟨_, List.getElem?_eq_getElem hlt⟩
      have hd : zs.drop k = x :: zs.drop (k + 1) := by
        rw [List.drop_eq_getElem_cons hlt]
        congr 1
        exact (List.getElem?_eq_some_iff.1 hx).2
      have HD := Lib.hid hd
      cases a with
      | none => have := Hn.out rfl; subst this; simp at hlt
      | some ad =>
        have cx := Hc.out ad rfl k x hx
        have hki : (k : Int) < (zs.length : Int) := by omega
        have hk0 : (0 : Int) ≤ (k : Int) := by omega
        clear hx hd
        by_cases t1 : x ≤ last
        · have HF : Hid (riseK count last (zs.drop k) = false) := Lib.hid (by rw [HD.out]; unfold riseK; rw [if_pos (.inl t1)])
          go_wp2_with fail
          go_ret
          exact ⟨by rw [← Hr.out, HF.out]; rfl, rfl⟩
        · by_cases t2 : count ≤ x
          · have HF : Hid (riseK count last (zs.drop k) = false) := Lib.hid (by rw [HD.out]; unfold riseK; rw [if_pos (.inr t2)])
            go_wp2_with fail
            go_ret
            exact ⟨by rw [← Hr.out, HF.out]; rfl, rfl⟩
          · have HF : Hid (riseK count last (zs.drop k) = riseK count x (zs.drop (k + 1))) := Lib.hid (by rw [HD.out]; conv => lhs; unfold riseK; rw [if_neg (by omega)])
            go_wp2_with fail
            go_roundg (zs.length - (k + 1))
            case measure => have := Hg.out; omega
            case rel => exact ⟨k + 1, x, by omega, rfl, by go_num, rfl, rfl, by rw [← HF.out]; exact Hr.out⟩
    · have HF : Hid (riseK count last (zs.drop k) = true) := Lib.hid (by rw [List.drop_eq_nil_of_le (by omega)]; rfl)
      go_wp2_with fail
      go_ret
      exact ⟨by rw [← Hr.out, HF.out]; rfl, rfl⟩
end Go.Proofs.YtipclbibomemjaaGreatDoor
