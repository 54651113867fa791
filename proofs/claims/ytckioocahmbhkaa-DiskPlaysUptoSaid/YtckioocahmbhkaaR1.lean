/- The reference's disk: how it lies in memory; its small functions walked. -/
import Derived.Test.YtckioocahmbhkaaL0
import Derived.Test.YtckioocahmbhkaaC2
import Derived.WalkKit
import Derived.Outline
import Derived.Deep.DeepCutAuto
import Derived.Deep.LoopGhost
import Derived.Deep.CutBlock
import Derived.Deep.RegionHeld3
import Derived.Deep.QuietTactic
import Derived.BigQuiet
namespace Go.Proofs.Ytckioocahmbhkaa
open Go Go.RowKit Go.Maps Go.MuLone

def refCells (lv pv : Value) (D : DS) : Array Value := #[.int .i64 D.cap, lv, pv, .bool D.off, .int .i64 D.fuse, .int .i64 D.done, .int .i64 D.reads]

/-- The reference's disk D lies at block b; its lists are lv, pv. -/
structure RefF (w : World) (own : Own) (b : Nat) (D : DS) (lv pv : Value) : Prop where
  str : own b = some .str
  blk : w.heap[b]? = some (.cells (refCells lv pv D) 84 (0, 0))
  last : LastAt w own lv D.lasting
  pend : PendAt w own pv D.pending
  f0 : 0 ≤ D.fuse
  f1 : D.fuse ≤ 9223372036854775807
  lt : ∀ k, own.blocks k → k < w.heap.size

def RefAt (w : World) (own : Own) (b : Nat) (D : DS) : Prop := ∃ lv pv, RefF w own b D lv pv

theorem RefF.chg {w w' : World} {own : Own} {b : Nat} {D : DS} {lv pv : Value} {S : Nat → Prop} (h : RefF w own b D lv pv) (hc : Chg S w w') (hs : ∀ g, own.blocks g → ¬ S g) : RefF w' own b D lv pv := by
  have k : ∀ g r, own g = some r → ¬ S g := fun g r e => hs g (Own.blocks_of e)
  exact ⟨h.str, hc.get h.blk (k b _ h.str), h.last.chg hc (fun g => k g _) (fun g i => k g _), h.pend.chg hc (fun g => k g _) (fun g i => k g _), h.f0, h.f1, fun g hg => Nat.lt_of_lt_of_le (h.lt g hg) hc.size⟩
theorem RefAt.chg {w w' : World} {own : Own} {b : Nat} {D : DS} {S : Nat → Prop} (h : RefAt w own b D) (hc : Chg S w w') (hs : ∀ g, own.blocks g → ¬ S g) : RefAt w' own b D := by
  obtain ⟨lv, pv, h⟩ := h
  exact ⟨lv, pv, h.chg hc hs⟩

/-- The struct's plain cells turn. -/
theorem RefF.turn {w w' : World} {own : Own} {b : Nat} {D D' : DS} {lv pv : Value} (h : RefF w own b D lv pv) (hc : Chg (fun x => x = b) w w')
    (hb : w.heap[b]? = some (.cells (refCells lv pv D) 84 (0, 0)) → w'.heap[b]? = some (.cells (refCells lv pv D') 84 (0, 0)))
    (h1 : D'.lasting = D.lasting) (h2 : D'.pending = D.pending) (h4 : 0 ≤ D'.fuse ∧ D'.fuse ≤ 9223372036854775807) : RefF w' own b D' lv pv := by
  have k : ∀ g r, own g = some r → r ≠ .str → ¬ g = b := fun g r e hr => not_b h.str e hr
  refine ⟨h.str, hb h.blk, ?_, ?_, h4.1, h4.2, fun g hg => Nat.lt_of_lt_of_le (h.lt g hg) hc.size⟩
  · rw [h1]; exact h.last.chg hc (fun g e => k g _ e (by simp)) (fun g i e => k g _ e (by simp))
  · rw [h2]; exact h.pend.chg hc (fun g e => k g _ e (by simp)) (fun g i e => k g _ e (by simp))
theorem RefF.set {w : World} {own : Own} {b : Nat} {D D' : DS} {lv pv : Value} (h : RefF w own b D lv pv) (o : Nat) (v : Value) (hb : (refCells lv pv D).setIfInBounds o v = refCells lv pv D')
    (h1 : D'.lasting = D.lasting) (h2 : D'.pending = D.pending) (h4 : 0 ≤ D'.fuse ∧ D'.fuse ≤ 9223372036854775807) : RefF (w.setCell ⟨b, o, none⟩ v) own b D' lv pv :=
  h.turn (chg1 v) (fun hb0 => by rw [heap_setCell_same v hb0, hb]) h1 h2 h4
theorem RefAt.set {w : World} {own : Own} {b : Nat} {D D' : DS} (h : RefAt w own b D) (o : Nat) (v : Value) (hb : ∀ lv pv, (refCells lv pv D).setIfInBounds o v = refCells lv pv D')
    (h1 : D'.lasting = D.lasting) (h2 : D'.pending = D.pending) (h4 : 0 ≤ D'.fuse ∧ D'.fuse ≤ 9223372036854775807) : RefAt (w.setCell ⟨b, o, none⟩ v) own b D' := by
  obtain ⟨lv, pv, h⟩ := h
  exact ⟨lv, pv, h.set o v (hb _ _) h1 h2 h4⟩
theorem RefAt.str {w : World} {own : Own} {b : Nat} {D : DS} (h : RefAt w own b D) : own b = some .str := by obtain ⟨_, _, h⟩ := h; exact h.str
theorem RefAt.fuse {w : World} {own : Own} {b : Nat} {D : DS} (h : RefAt w own b D) : 0 ≤ D.fuse ∧ D.fuse ≤ 9223372036854775807 := by obtain ⟨_, _, h⟩ := h; exact ⟨h.f0, h.f1⟩
theorem RefAt.blt {w : World} {own : Own} {b : Nat} {D : DS} (h : RefAt w own b D) : b < w.heap.size := by obtain ⟨_, _, h⟩ := h; exact h.lt b (Own.blocks_of h.str)
theorem RefAt.cells {w : World} {own : Own} {b : Nat} {D : DS} (h : RefAt w own b D) :
    w.cell? ⟨b, 0, none⟩ = some (.int .i64 D.cap) ∧ w.cell? ⟨b, 3, none⟩ = some (.bool D.off) ∧ w.cell? ⟨b, 4, none⟩ = some (.int .i64 D.fuse) ∧ w.cell? ⟨b, 5, none⟩ = some (.int .i64 D.done) ∧ w.cell? ⟨b, 6, none⟩ = some (.int .i64 D.reads) ∧ ∀ o, w.frozen? ⟨b, o, none⟩ = false := by
  obtain ⟨lv, pv, h⟩ := h
  refine ⟨?_, ?_, ?_, ?_, ?_, fun o => by simp [World.frozen?, h.blk]⟩ <;> simp [World.cell?, h.blk, refCells]
theorem RefF.fields {w : World} {own : Own} {b : Nat} {D : DS} {lv pv : Value} (h : RefF w own b D lv pv) : w.cell? ⟨b, 1, none⟩ = some lv ∧ w.cell? ⟨b, 2, none⟩ = some pv := by
  refine ⟨?_, ?_⟩ <;> simp [World.cell?, h.blk, refCells]

/-! ### zeros, Bytes, New, fails, Arm, Pages -/
theorem zeros_any (w : World) : Calls Try.prog 53 #[] w fun e w' => e = .returned (.slice (some ⟨w.heap.size, 0, none⟩) 4096 4096) ∧ w.alloc (.cells zcells 5) = w' := by
  have hmk := run_zpage
  go_enter Try.func53, Try.ntmps53
  go_wp2
  go_ret
  exact ⟨rfl, rfl⟩

set_option maxRecDepth 100000 in
theorem bytes_any (w : World) (v : Value) (bs : List UInt8) (h : SeesB w v bs) (hcap : bs.length ≤ 140737488351232) :
    Calls Try.prog 28 #[v] w fun e w' => ∃ g cap, e = .returned (.slice (some ⟨g, 0, none⟩) bs.length cap) ∧ w.heap.size ≤ g ∧ w'.ownsRow 0 5 1 (.slice (some ⟨g, 0, none⟩) bs.length cap) bs.length (bVs bs) ∧ Chg (fun _ => False) w w' := by
  obtain ⟨a, cap, rfl, hn, hcell⟩ := h
  obtain ⟨i1, hi', hz0, hz1, hz2⟩ := info_parts info5
  obtain ⟨B, hB⟩ : ∃ B, B = w.heap.size := ⟨_, rfl⟩
  rw [← hB]
  have HB := Lib.hid hB
  clear hB
  cases a with
  | none =>
    obtain rfl : bs = [] := hn rfl
    clear hn hcell
    go_enter Try.func28, Try.ntmps28
    go_wp2_with (at_make; refine wpList_make_own _ rfl _ _ 27 rfl 0 5 i1 (.int .u8 0) 1 Try.underlying27 hi' hz0 hz1 .i64 .i64 _ 0 rfl rfl (by simp) (by omega) (by unfold maxLen; omega) (Nat.zero_le _) ?_; intro w1 hown1 hg1; rw [← HB.out] at hown1 ⊢; have Hown1 := Lib.hid hown1; have Hg1 := Lib.hid hg1; clear hown1 hg1)
    go_ret
    exact ⟨B, 0, rfl, Nat.le_refl _, Hown1.out, (Chg.refl _ _).grown Hg1.out (fun k e => by cases e)⟩
  | some ad =>
    have Hc := Lib.hid (hcell ad rfl)
    clear hn hcell
    go_enter Try.func28, Try.ntmps28
    go_wp2_with (first
      | (at_make; refine wpList_make_own _ rfl _ _ 27 rfl 0 5 i1 (.int .u8 0) 1 Try.underlying27 hi' hz0 hz1 .i64 .i64 _ bs.length rfl rfl (by simp) (by rw [hz2]; omega) (by unfold maxLen; omega) (Nat.zero_le _) ?_; intro w1 hown1 hg1; rw [← HB.out] at hown1 ⊢; have Hown1 := Lib.hid hown1; have Hg1 := Lib.hid hg1; clear hown1 hg1)
      | (at_builtin; refine wpList_append_own_at _ rfl _ _ 27 rfl 0 5 i1 (.int .u8 0) 1 1 Try.underlying27 hi' hz0 hz1 hz2 rfl (by decide) (.slice (some ⟨B, 0, none⟩) 0 bs.length) 0 [] (by rfl) Hown1.out ad bs.length cap (bVs bs) rfl (by rw [bVs_length, Nat.mul_one]) (fun j u hu => by obtain ⟨x, hx, rfl⟩ := bVs_get hu; have h := Hc.out j x hx; exact Hg1.out.cell h (by simp)) oneCell_bVs (by unfold maxLen; omega) (by omega) (Nat.zero_le _) ?_; intro v' w2 hown2 hg2 hnil2 hat2))
    have hne : v' ≠ .slice none 0 0 := fun e => by have := (hnil2.1 e).1; cases this
    rw [Nat.zero_add, List.nil_append] at hown2
    obtain ⟨g, cap', rfl⟩ : ∃ g cap', v' = .slice (some ⟨g, 0, none⟩) bs.length cap' := by
      rcases hown2.2 with ⟨e, _⟩ | ⟨g, cap', _, e, _⟩
      · exact (hne e).elim
      · exact ⟨g, cap', e⟩
    have hge : B ≤ g := by
      rcases hat2 with e | e
      · simp only [Value.ownBlock, Option.some.injEq] at e
        omega
      · have := Hg1.out.size
        simp only [Value.ownBlock, Option.some.injEq] at e
        rw [HB.out]; omega
    have Hown2 := Lib.hid hown2
    have Hg2 := Lib.hid hg2
    clear hown2 hg2 hnil2 hat2 hne
    go_wp2
    go_ret
    exact ⟨g, cap', rfl, hge, Hown2.out, ((Chg.refl _ w).grown Hg1.out (fun k e => by cases e)).grown Hg2.out (fun k e => (Or.inr (by simp only [Value.ownBlock, Option.some.injEq] at e; rw [← HB.out]; omega)))⟩

theorem rnew_no (w : World) (cap : Int) (h : cap < 2 ∨ 524287 < cap) : Calls Try.prog 39 #[.int .i64 cap] w fun e w' => e = .returned (.pointer none) ∧ w = w' := by
  by_cases h1 : cap < 2
  · clear h
    go_enter Try.func39, Try.ntmps39
    go_wp2
    go_ret
    exact ⟨rfl, rfl⟩
  · have h2 : 524287 < cap := by omega
    clear h
    go_enter Try.func39, Try.ntmps39
    go_wp2
    go_ret
    exact ⟨rfl, rfl⟩

def ownR0 (H : Nat) : Own := fun k => if k = H then some .str else none
theorem ownR0_blocks {H k : Nat} (h : (ownR0 H).blocks k) : k = H := by
  simp only [Own.blocks, ownR0] at h
  by_cases e : k = H
  · exact e
  · simp [e] at h
theorem rnew_lies (w : World) (cap : Int) : RefAt (w.alloc (.cells #[.int .i64 cap, .slice none 0 0, .slice none 0 0, .bool false, .int .i64 0, .int .i64 0, .int .i64 0] 84)) (ownR0 w.heap.size) w.heap.size (DS.new cap) := by
  refine ⟨.slice none 0 0, .slice none 0 0, by simp [ownR0], heap_alloc_new w _, ⟨[], rfl, ⟨World.ownsRow_nil _ _ _ _, fun g e => by simp [Value.ownBlock] at e⟩, fun i p hi => by simp [DS.new] at hi⟩,
    ⟨[], rfl, ⟨World.ownsRow_nil _ _ _ _, fun g e => by simp [Value.ownBlock] at e⟩, fun i p hi => by simp [DS.new] at hi⟩, by simp [DS.new], by simp [DS.new], fun k hk => ?_⟩
  have := ownR0_blocks hk
  simp; omega

set_option maxRecDepth 100000 in
theorem rnew_yes (w : World) (cap : Int) (h1 : 2 ≤ cap) (h2 : cap ≤ 524287) :
    Calls Try.prog 39 #[.int .i64 cap] w fun e w' => e = .returned (.pointer (some ⟨w.heap.size, 0, none⟩)) ∧ RefAt w' (ownR0 w.heap.size) w.heap.size (DS.new cap) ∧ Chg (fun _ => False) w w' := by
  have hl := Lib.hid (rnew_lies w cap)
  go_enter Try.func39, Try.ntmps39
  go_wp2
  go_ret
  exact ⟨rfl, hl.out, (Chg.refl _ _).alloc _⟩

theorem fails_any (w : World) (own : Own) (b : Nat) (D : DS) (h : RefAt w own b D) (hoff : D.off = false) :
    Calls Try.prog 55 #[.pointer (some ⟨b, 0, none⟩)] w fun e w' => e = .returned (.bool D.count.off) ∧ RefAt w' own b D.count ∧ Chg (fun x => x = b) w w' := by
  have hD := Lib.hid h
  obtain ⟨_, h3, h4, h5, _, hfz⟩ := h.cells
  have f3 := hfz 3
  have f4 := hfz 4
  have f5 := hfz 5
  obtain ⟨hf0, hf1⟩ := h.fuse
  have Hoff := Lib.hid hoff
  rw [hoff] at h3
  clear hfz h hoff
  by_cases hpos : 0 < D.fuse
  · have he := Lib.hid (DS.count_pos hpos)
    have hne : (D.fuse == 0) = false := by rw [beq_eq_false_iff_ne]; omega
    go_enter Try.func55, Try.ntmps55
    go_wp2
    go_ret
    rw [he.out]
    refine ⟨rfl, ?_, chgS (chgS (chg1 _) _ _) _ _⟩
    exact ((hD.out.set (D' := { D with done := wrap64 (D.done + 1) }) 5 _ (fun _ _ => rfl) rfl rfl hD.out.fuse).set (D' := { D with done := wrap64 (D.done + 1), fuse := D.fuse - 1 }) 4 _ (fun _ _ => rfl) rfl rfl ⟨by show 0 ≤ D.fuse - 1; omega, by show D.fuse - 1 ≤ _; omega⟩).set 3 _ (fun _ _ => rfl) rfl rfl ⟨by show 0 ≤ D.fuse - 1; omega, by show D.fuse - 1 ≤ _; omega⟩
  · have he := Lib.hid (DS.count_neg (by omega : D.fuse ≤ 0))
    have hne : (D.fuse == 0) = true := by rw [beq_iff_eq]; omega
    go_enter Try.func55, Try.ntmps55
    go_wp2
    go_ret
    rw [he.out]
    refine ⟨by show _ = Ending.returned (.bool D.off); rw [Hoff.out]; rfl, ?_, chg1 _⟩
    exact hD.out.set (D' := { D with done := wrap64 (D.done + 1) }) 5 _ (fun _ _ => rfl) rfl rfl hD.out.fuse

theorem rarm_any (w : World) (own : Own) (b : Nat) (D : DS) (h : RefAt w own b D) (k : Int) (hk : k ≤ 9223372036854775807) :
    Calls Try.prog 44 #[.pointer (some ⟨b, 0, none⟩), .int .i64 k] w fun e w' => e = .returned (.int .i64 (D.arm k).1) ∧ RefAt w' own b (D.arm k).2 ∧ Chg (fun x => x = b) w w' := by
  have hD := Lib.hid h
  obtain ⟨_, h3, _, _, _, hfz⟩ := h.cells
  have f4 := hfz 4
  clear hfz h
  by_cases h1 : k < 0
  · have he : Hid (D.arm k = (124, D)) := Lib.hid (by unfold DS.arm; rw [if_pos h1])
    go_enter Try.func44, Try.ntmps44
    go_wp2
    go_ret
    rw [he.out]
    exact ⟨rfl, hD.out, Chg.refl _ _⟩
  · cases hoff : D.off with
    | true =>
      have he : Hid (D.arm k = (123, D)) := Lib.hid (by unfold DS.arm; rw [if_neg h1, hoff]; rfl)
      rw [hoff] at h3
      clear hoff
      go_enter Try.func44, Try.ntmps44
      go_wp2
      go_ret
      rw [he.out]
      exact ⟨rfl, hD.out, Chg.refl _ _⟩
    | false =>
      have he : Hid (D.arm k = (0, { D with fuse := k })) := Lib.hid (by unfold DS.arm; rw [if_neg h1, hoff]; rfl)
      rw [hoff] at h3
      clear hoff
      go_enter Try.func44, Try.ntmps44
      go_wp2
      go_ret
      rw [he.out]
      exact ⟨rfl, hD.out.set 4 _ (fun _ _ => rfl) rfl rfl ⟨by show 0 ≤ k; omega, hk⟩, chg1 _⟩

theorem rpages_any (w : World) (own : Own) (b : Nat) (D : DS) (h : RefAt w own b D) (hok : D.ok) :
    Calls Try.prog 50 #[.pointer (some ⟨b, 0, none⟩)] w fun e w' => e = .returned (.int .i64 D.pages) ∧ w = w' := by
  obtain ⟨lv, pv, hF⟩ := h
  obtain ⟨c1, c2⟩ := hF.fields
  obtain ⟨ls, hll, hla, _⟩ := hF.last
  obtain ⟨vs, hvl, hpa, hpv⟩ := hF.pend
  obtain ⟨la, lc, rfl, _, _, _⟩ := ownsRow_slice hla.1
  obtain ⟨pa, pc, rfl, hpn, hpm, hpg⟩ := ownsRow_slice hpa.1
  have Hok := Lib.hid hok
  have hln := hok.len'
  unfold maxLen at hpm
  clear hF hok
  go_enter Try.func50, Try.ntmps50
  go_wp2
  go_loop [3, 4] (fun n i => ∃ k : Nat, k ≤ D.pending.length ∧ i = .int .i64 k ∧ n = .int .i64 (pagesL (D.pending.take k) D.lasting.length)) (fun _ i => D.pending.length - (intOf i).toNat)
  case atStart => exact ⟨0, Nat.zero_le _, rfl, rfl⟩
  case round =>
    obtain ⟨k, hk, rfl, rfl⟩ := hrel
    by_cases hlt : k < D.pending.length
    · obtain ⟨g, rfl⟩ := hpg (by omega)
      obtain ⟨q, hq⟩ : ∃ q, D.pending[k]? = some q := ⟨_, List.getElem?_eq_getElem hlt⟩
      obtain ⟨v, hv, gv, cv, rfl, _, _⟩ := hpv k q hq
      obtain ⟨e1, e2⟩ := pcells_get D.pending vs k q _ hq hv
      have k1 : w.cell? ⟨g, k * 2, none⟩ = some (.int .i64 q.1) := (hpa.1.cellAt (k * 2) (by omega)).trans e1
      have hq1 : q.1 ≤ 1000000 := Hok.out.no' q (List.mem_of_getElem? hq)
      have hpl : pagesL (D.pending.take k) D.lasting.length ≤ 1000001 := pagesL_le _ _ _ (by omega) (fun q hq => Hok.out.no' q (List.mem_of_mem_take hq))
      have hst := Lib.hid (pagesL_snoc D.pending D.lasting.length k q hq)
      clear e1 e2 hq hv
      go_wp2
      all_goals
        go_round
        case rel => exact ⟨k + 1, by omega, by go_num, by rw [hst.out]; congr 1; first | omega | (split <;> omega)⟩
        case measure => simp [intOf]; omega
    · go_wp2
      go_ret
      refine ⟨?_, rfl⟩
      rw [show k = D.pending.length by omega, List.take_length]
      rfl

end Go.Proofs.Ytckioocahmbhkaa
