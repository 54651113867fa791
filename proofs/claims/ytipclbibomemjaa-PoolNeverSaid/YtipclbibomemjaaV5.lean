/- The document's pool: Room, Pin, Unpin. -/
import Derived.Test.YtipclbibomemjaaV4
namespace Go.Proofs.Ytipclbibomemjaa
open Go Go.RowKit Go.Maps

set_option maxRecDepth 100000 in
set_option maxHeartbeats 4000000 in
theorem rroom_any (w : World) (rb : Nat) (P : PS) (lv pv : Value) (h : RF w rb P lv pv) (hok : P.ok) (hcap : P.cap ≤ 1000000) (hp : P.pins.length ≤ 1000000) :
    Calls Try.prog 31 #[.pointer (some ⟨rb, 0, none⟩)] w fun e w' => e = .returned (.int .i64 P.room) ∧ Chg (fun _ => False) w w' := by
  obtain ⟨c0, c1, c2, c3, _⟩ := h.cells
  have H := Lib.hid (h.chg0 (Chg.refl (fun _ => False) w).drew)
  have hfl := hok.len
  have hul := usable_len hok
  obtain ⟨u, hu⟩ : ∃ u, u = P.usable.length := ⟨_, rfl⟩
  rw [← hu] at hul
  have Hu := Lib.hid hu
  have hsz := hok.size
  have hw1 : IntKind.i64.wrap ((u : Int) + P.cap) = u + P.cap := wrapI (by omega) (by omega)
  have hw2 : IntKind.i64.wrap ((u : Int) + P.cap - P.size) = u + P.cap - P.size := wrapI (by omega) (by omega)
  clear h hok hu
  go_enter Try.func31, Try.ntmps31
  go_wp2_with fail
  go_region_held3 (fun w' => w'.cell? ⟨rb, 0, none⟩ = some (.int .i64 P.size) ∧ w'.cell? ⟨rb, 1, none⟩ = some (.int .i64 P.cap))
    (first
      | exact kx4
      | go_keep)
    (first
      | (go_simp; go_at_call 30; refine (rusable_any _ _ _ _ _ H.out hfl hp).mono ?_; rintro e w4 ⟨v, rfl, hN, hc⟩; obtain ⟨a, c, e, _⟩ := ownsRow_slice hN.1; rw [nums_length, ← Hu.out] at e; subst e; have HC := Lib.hid ((Chg.refl (fun _ => False) w).drew.trans hc (fun _ f => f.elim)); have kx4 := And.intro (H.out.chg0 hc).cells.1 (H.out.chg0 hc).cells.2.1; clear hN hc))
  all_goals
    go_wp2_with fail
    go_ret
    exact ⟨by unfold PS.room; rw [← Hu.out]; rfl, HC.out⟩

theorem ownsRow_lt {w : World} {base : Nat} {e : TypeId} {sz : Nat} {v : Value} {n : Nat} {xs : List Value} (h : w.ownsRow base e sz v n xs) {g : Nat} (hg : v.ownBlock = some g) : g < w.heap.size := by
  rcases h.2 with ⟨rfl, _⟩ | ⟨g', cap, cur, rfl, _, hh, _⟩
  · cases hg
  · have e2 : some g' = some g := hg
    injection e2 with e3
    subst e3
    exact heap_lt hh
theorem RF.setPins {w w1 : World} {rb : Nat} {P : PS} {lv pv pv' : Value} {pins : List Int} {wr' : Nat} {S : Nat → Prop} (h : RF w rb P lv pv) (hc : Chg S w w1) (h0 : ¬ S rb) (h1 : ∀ g, lv.ownBlock = some g → ¬ S g)
    (hr : w1.ownsRow 0 3 1 pv' pins.length (pins.map (Value.int .i64))) (hn : ∀ g, pv'.ownBlock = some g → g ≠ rb ∧ lv.ownBlock ≠ some g) : RF (w1.setCell ⟨rb, 3, none⟩ pv') rb { P with pins := pins, wr := wr' } lv pv' := by
  have hc2 : Chg (fun k => k = rb) w1 (w1.setCell ⟨rb, 3, none⟩ pv') := chg1 _
  refine ⟨by rw [heap_setCell_same _ (hc.get h.blk h0)]; rfl, ownsRow_chg (ownsRow_chg h.fr hc h1) hc2 (fun g e f => ?_), ownsRow_chg hr hc2 (fun g e f => (hn g e).1 f), h.nl, fun e => (hn rb e).1 rfl, fun g e e2 => (hn g e2).2 e⟩
  have : g = rb := f
  subst this
  exact h.nl e

set_option maxRecDepth 100000 in
theorem rpin_any (w : World) (rb : Nat) (P : PS) (lv pv : Value) (h : RF w rb P lv pv) (hp : P.pins.length ≤ 1000000) (x : Int) :
    Calls Try.prog 32 #[.pointer (some ⟨rb, 0, none⟩), .int .i64 x] w fun e w' => e = .returned (.tuple #[]) ∧ ∃ pv', RF w' rb { P with pins := P.pins ++ [x], wr := P.wr + 1 } lv pv' ∧ Chg (fun k => k = rb ∨ pv.ownBlock = some k) w w' ∧ ∀ g, pv'.ownBlock = some g → pv.ownBlock = some g ∨ w.heap.size ≤ g := by
  obtain ⟨_, _, _, c3, cf⟩ := h.cells
  have f3 := cf 3
  obtain ⟨b, d, rfl, _, _, _⟩ := ownsRow_slice h.pn
  have HF := Lib.hid h
  have hlt := h.lt
  clear h cf
  go_enter Try.func32, Try.ntmps32
  go_wp2_with (first
    | (at_builtin; refine app_int rfl _ _ rfl _ P.pins rfl HF.out.pn x rfl (by omega) ?_; intro g5 cap5 w5 hr5 hc5 hat5; have HR5 := Lib.hid hr5; have HC5 := Lib.hid hc5; have HA5 := Lib.hid hat5; have f5 : w5.frozen? ⟨rb, 3, none⟩ = false := (by have := hc5.get HF.out.blk (fun e => HF.out.np e); simp [World.frozen?, this]); have d5 : w5.cell? ⟨rb, 3, none⟩ = some (.slice b P.pins.length d) := (by have := hc5.get HF.out.blk (fun e => HF.out.np e); simp [World.cell?, this]); clear hr5 hc5 hat5)
    | fail)
  go_end0
  have hg5 : ∀ g, (Value.slice (some ⟨g5, 0, none⟩) (P.pins.length + 1) cap5).ownBlock = some g → (Value.slice b P.pins.length d).ownBlock = some g ∨ w.heap.size < g := fun g e => by
    have e2 : some g5 = some g := e
    injection e2 with e3
    rw [← e3]; exact HA5.out
  refine ⟨rfl, _, HF.out.setPins (pins := P.pins ++ [x]) (wr' := P.wr + 1) HC5.out HF.out.np (fun g e f => HF.out.ne g e f) (by rw [List.length_append]; exact HR5.out) (fun g e => ?_), (HC5.out.mono (fun k e => .inr e)).setCell (p := ⟨rb, 3, none⟩) (.inl (.inl rfl)) _, fun g e => (hg5 g e).imp id (fun e => by omega)⟩
  rcases hg5 g e with e2 | e2
  · exact ⟨fun e3 => HF.out.np (e3 ▸ e2), fun e3 => HF.out.ne g e3 e2⟩
  · refine ⟨by omega, fun e3 => ?_⟩
    have := ownsRow_lt HF.out.fr e3
    omega
end Go.Proofs.Ytipclbibomemjaa
