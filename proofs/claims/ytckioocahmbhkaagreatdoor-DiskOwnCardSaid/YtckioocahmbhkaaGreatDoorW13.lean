/- Walks: Read. -/
import Derived.Test.YtckioocahmbhkaaGreatDoorW12
import Derived.Outline
namespace Go.Proofs.YtckioocahmbhkaaGreatDoor
open Go Go.RowKit Go.Maps Go.MuLone

theorem zero27 (w : World) : (zeroValue 47).run Tryz.prog w = .ok (.slice none 0 0) w := by kernel_rfl

/-- What Read tells of page i. -/
def DS.page (D : DS) (i : Nat) : List UInt8 := match lastOf D.pending i with
  | some p => p
  | none => D.lasting.getD i zpage

def DS.looked (D : DS) : DS := { D with reads := wrap64 (D.reads + 1) }

theorem read_neg (w : World) (own : Own) (b : Nat) (D : DS) (h : DiskAt w own 0 b D) (i : Int) (hi : i < 0) :
    Calls Tryz.prog 9 #[.pointer (some ⟨b, 0, none⟩), .int .i64 i] w fun e w' => e = .returned (.tuple #[.slice none 0 0, .int .i64 121]) ∧ DiskAt w' own 0 b D ∧ Chg (fun x => x = b) w w' := by
  have h1 := h.lock 0 1
  have hD1 := Lib.hid h1
  obtain ⟨hs, hfz⟩ := h.lockCell
  obtain ⟨hs1, hfz1⟩ := h1.lockCell
  clear h h1
  go_enter_defers Tryz.func9, Tryz.ntmps9
  go_wp2_with (go_at_call 21; refine (lock_free Tryz.muLib ⟨b, 0, none⟩ _ hs (hfz 0)).mono ?_; rintro e w' ⟨rfl, rfl⟩)
  refine leaves_cons (f := 22) (args := #[.pointer (some ⟨b, 0, none⟩)]) (by simp) (by simp [go_sem]) ?_
  refine (unlock_deferred Tryz.muLib ⟨b, 0, none⟩ .returning _ hs1 (hfz1 0)).mono ?_
  rintro e u' w'' ⟨rfl, rfl, rfl⟩
  exact ⟨_, results_tmp2 rfl _ _ _, rfl, unlocks hD1.out (chg1 _)⟩

theorem read_far (w : World) (own : Own) (b : Nat) (D : DS) (h : DiskAt w own 0 b D) (hok : D.ok) (i : Nat) (hi : D.pages ≤ i) :
    Calls Tryz.prog 9 #[.pointer (some ⟨b, 0, none⟩), .int .i64 i] w fun e w' => e = .returned (.tuple #[.slice none 0 0, .int .i64 121]) ∧ DiskAt w' own 0 b D ∧ Chg (fun x => x = b) w w' := by
  have h1 := h.lock 0 1
  have hD1 := Lib.hid h1
  have Hok := Lib.hid hok
  obtain ⟨hs, hfz⟩ := h.lockCell
  clear h h1 hok
  go_enter_defers Tryz.func9, Tryz.ntmps9
  go_wp2_with (go_at_call 21; refine (lock_free Tryz.muLib ⟨b, 0, none⟩ _ hs (hfz 0)).mono ?_; rintro e w' ⟨rfl, rfl⟩)
  refine (pages_any _ own 1 b D hD1.out Hok.out.no' Hok.out.len').mono ?_
  rintro e w1 ⟨rfl, hc1⟩
  have h2 := hD1.out.chg hc1 (fun _ _ f => f)
  have hD2 := Lib.hid h2
  obtain ⟨hs2, hfz2⟩ := h2.lockCell
  have Hc1 := Lib.hid hc1
  clear h2 hc1
  go_wp2
  refine leaves_cons (f := 22) (args := #[.pointer (some ⟨b, 0, none⟩)]) (by simp) (by simp [go_sem]) ?_
  refine (unlock_deferred Tryz.muLib ⟨b, 0, none⟩ .returning _ hs2 (hfz2 0)).mono ?_
  rintro e u' w'' ⟨rfl, rfl, rfl⟩
  exact ⟨_, results_tmp2 rfl _ _ _, rfl, unlocks hD2.out ((chg1 (b := b) (o := 0) _).trans Hc1.out (fun _ f => f.elim))⟩

theorem read_off (w : World) (own : Own) (b : Nat) (D : DS) (h : DiskAt w own 0 b D) (hok : D.ok) (i : Nat) (hi : i < D.pages) (hoff : D.off = true) :
    Calls Tryz.prog 9 #[.pointer (some ⟨b, 0, none⟩), .int .i64 i] w fun e w' => e = .returned (.tuple #[.slice none 0 0, .int .i64 123]) ∧ DiskAt w' own 0 b D ∧ Chg (fun x => x = b) w w' := by
  have h1 := h.lock 0 1
  have hD1 := Lib.hid h1
  have Hok := Lib.hid hok
  obtain ⟨hs, hfz⟩ := h.lockCell
  have Hoff := Lib.hid hoff
  clear h h1 hok hoff
  go_enter_defers Tryz.func9, Tryz.ntmps9
  go_wp2_with (go_at_call 21; refine (lock_free Tryz.muLib ⟨b, 0, none⟩ _ hs (hfz 0)).mono ?_; rintro e w' ⟨rfl, rfl⟩)
  refine (pages_any _ own 1 b D hD1.out Hok.out.no' Hok.out.len').mono ?_
  rintro e w1 ⟨rfl, hc1⟩
  have h2 := hD1.out.chg hc1 (fun _ _ f => f)
  have hD2 := Lib.hid h2
  obtain ⟨hs2, hfz2⟩ := h2.lockCell
  obtain ⟨_, h6, _, _, _⟩ := h2.cells
  rw [Hoff.out] at h6
  have Hc1 := Lib.hid hc1
  clear h2 hc1
  go_wp2
  refine leaves_cons (f := 22) (args := #[.pointer (some ⟨b, 0, none⟩)]) (by simp) (by simp [go_sem]) ?_
  refine (unlock_deferred Tryz.muLib ⟨b, 0, none⟩ .returning _ hs2 (hfz2 0)).mono ?_
  rintro e u' w'' ⟨rfl, rfl, rfl⟩
  exact ⟨_, results_tmp2 rfl _ _ _, rfl, unlocks hD2.out ((chg1 (b := b) (o := 0) _).trans Hc1.out (fun _ f => f.elim))⟩

theorem DiskAt.blt {w : World} {own : Own} {L : Int} {b : Nat} {D : DS} (h : DiskAt w own L b D) : b < w.heap.size := by
  obtain ⟨_, _, _, _, h⟩ := h
  exact heap_lt h.blk

theorem held_eq {v v0 : Value} {ps : List MemPlace} {d : DataW Value} (h : RV v = some (d, ps)) (h2 : d = .held v0) : v = v0 := by
  unfold RV at h
  simp only [Option.some.injEq, Prod.mk.injEq] at h
  obtain ⟨h, _⟩ := h
  rw [h2] at h
  cases h; rfl

set_option maxRecDepth 100000 in
set_option maxHeartbeats 800000 in
theorem read_now (w : World) (own : Own) (b : Nat) (D : DS) (h : DiskAt w own 0 b D) (hok : D.ok) (i : Nat) (hi : i < D.pages) (hoff : D.off = false) (p : List UInt8) (hp : lastOf D.pending i = some p) (hi2 : i ≤ 1000000) :
    Calls Tryz.prog 9 #[.pointer (some ⟨b, 0, none⟩), .int .i64 i] w fun e w' => ∃ g cap, e = .returned (.tuple #[.slice (some ⟨g, 0, none⟩) p.length cap, .int .i64 0]) ∧ w.heap.size ≤ g ∧ w'.ownsRow 0 5 1 (.slice (some ⟨g, 0, none⟩) p.length cap) p.length (bVs p) ∧ DiskAt w' own 0 b D.looked ∧ Chg (fun x => x = b) w w' := by
  have h1 := h.lock 0 1
  have hD1 := Lib.hid h1
  have Hok := Lib.hid hok
  obtain ⟨hs, hfz⟩ := h.lockCell
  have Hoff := Lib.hid hoff
  have Hp := Lib.hid hp
  have hbs := h.str
  have Hbs := Lib.hid hbs
  have hblt : Hid (b < w.heap.size) := Lib.hid h.blt
  clear h h1 hok hoff hp hbs
  go_enter_defers Tryz.func9, Tryz.ntmps9
  go_wp2_with (go_at_call 21; refine (lock_free Tryz.muLib ⟨b, 0, none⟩ _ hs (hfz 0)).mono ?_; rintro e w' ⟨rfl, rfl⟩)
  refine (pages_any _ own 1 b D hD1.out Hok.out.no' Hok.out.len').mono ?_
  rintro e w1 ⟨rfl, hc1⟩
  have h2 := hD1.out.chg hc1 (fun _ _ f => f)
  have hD2 := Lib.hid h2
  obtain ⟨hs2, hfz2⟩ := h2.lockCell
  obtain ⟨_, h6, _, _, h9⟩ := h2.cells
  rw [Hoff.out] at h6
  have Hc1 := Lib.hid hc1
  have f9 := hfz2 9
  obtain ⟨sema, lv, pv, m, hF⟩ := h2
  obtain ⟨_, _, c5⟩ := hF.fields
  obtain ⟨hmo, M, hM, hMq⟩ := hF.now
  have hq := hMq i
  rw [Hp.out] at hq
  obtain ⟨hhas, v, hat, gv, cv, rfl, hrole, hrow⟩ := hq
  have hmb : m ≠ b := fun e => by
    subst e
    rw [hF.str] at hmo; cases hmo
  have hM1 := hM.setCell (a := ⟨b, 9, none⟩) hmb (.int .i64 (wrap64 (D.reads + 1)))
  have hvb : gv ≠ b := fun e => by
    subst e; rw [Hbs.out] at hrole; cases hrole
  have hrow1 := ownsRow_chg hrow (chg1 (b := b) (o := 9) (.int .i64 (wrap64 (D.reads + 1)))) (fun g e => by simp [Value.ownBlock] at e; omega)
  have hlen : p.length = 4096 := by
    obtain ⟨q, hq1, _, hq2⟩ := lastOf_some Hp.out
    rw [← hq2]; exact Hok.out.data q hq1
  have hne : Hid (p ≠ []) := Lib.hid (fun e => by rw [e] at hlen; simp at hlen)
  have hS : Hid (Sees (w1.setCell ⟨b, 9, none⟩ (.int .i64 (wrap64 (D.reads + 1)))) (.slice (some ⟨gv, 0, none⟩) p.length cv) p) := by
    obtain ⟨s1, s2⟩ := row_sees hrow1
    exact Lib.hid ⟨gv, 0, cv, rfl, s1, by rw [hlen]; exact pl_reach, s2⟩
  have h3 := hD2.out.set (L' := 1) (D' := D.looked) 9 (.int .i64 (wrap64 (D.reads + 1))) (fun _ _ _ _ => rfl) rfl rfl rfl hD2.out.fuse
  have H3 := Lib.hid h3
  have Hat := Lib.hid hat
  have Hhas := Lib.hid hhas
  clear hc1 hF hmo hM hMq hhas hat hrole hrow hrow1 hlen h3 hfz2
  go_wp2_with (at_lookup; refine wpList_lookup_own_ok _ rfl _ _ 67 rfl 3 47 law3 Tryz.underlying67 RV (zero27 _) (.held (.slice none 0 0)) [] rfl m D.wr M rfl hM1 _ (.int .i64 i) rfl (keyInt (by omega) (by omega)) ?_; intro v' ps' hv'; rw [Hhas.out]; obtain rfl : v' = .slice (some ⟨gv, 0, none⟩) p.length cv := held_eq hv' (Hat.out _); clear hv')
  refine (clone_any _ _ p hS.out hne.out).mono ?_
  rintro e w3 ⟨g, cg, rfl, hge, hrow3, hc3⟩
  have h4 := H3.out.chg hc3 (fun _ _ f => f)
  obtain ⟨hs4, hfz4⟩ := h4.lockCell
  have H4 := Lib.hid h4
  have Hrow3 := Lib.hid hrow3
  have Hc3 := Lib.hid hc3
  clear h4 hrow3 hc3
  go_wp2
  refine leaves_cons (f := 22) (args := #[.pointer (some ⟨b, 0, none⟩)]) (by simp) (by simp [go_sem]) ?_
  refine (unlock_deferred Tryz.muLib ⟨b, 0, none⟩ .returning _ hs4 (hfz4 0)).mono ?_
  rintro e u' w'' ⟨rfl, rfl, rfl⟩
  have hcw : Chg (fun x => x = b) w (w1.setCell ⟨b, 9, none⟩ (.int .i64 (wrap64 (D.reads + 1)))) := chgS ((chg1 (b := b) (o := 0) _).trans Hc1.out (fun _ f => f.elim)) 9 _
  have hcs := hcw.size
  have hbl : b < w.heap.size := hblt.out
  refine ⟨_, results_tmp2 rfl _ _ _, g, cg, rfl, Nat.le_trans hcs hge, ownsRow_chg Hrow3.out (chg1 (b := b) (o := 0) _) (fun g' e => by simp [Value.ownBlock] at e; omega), H4.out.lock 1 0, chgS (hcw.trans Hc3.out (fun _ f => f.elim)) 0 _⟩

set_option maxRecDepth 100000 in
set_option maxHeartbeats 800000 in
theorem read_old (w : World) (own : Own) (b : Nat) (D : DS) (h : DiskAt w own 0 b D) (hok : D.ok) (i : Nat) (hi : i < D.pages) (hoff : D.off = false) (p : List UInt8) (hp : lastOf D.pending i = none) (hpi : D.lasting[i]? = some p) (hi2 : i ≤ 1000000) :
    Calls Tryz.prog 9 #[.pointer (some ⟨b, 0, none⟩), .int .i64 i] w fun e w' => ∃ g cap, e = .returned (.tuple #[.slice (some ⟨g, 0, none⟩) p.length cap, .int .i64 0]) ∧ w.heap.size ≤ g ∧ w'.ownsRow 0 5 1 (.slice (some ⟨g, 0, none⟩) p.length cap) p.length (bVs p) ∧ DiskAt w' own 0 b D.looked ∧ Chg (fun x => x = b) w w' := by
  have h1 := h.lock 0 1
  have hD1 := Lib.hid h1
  have Hok := Lib.hid hok
  obtain ⟨hs, hfz⟩ := h.lockCell
  have Hoff := Lib.hid hoff
  have Hp := Lib.hid hp
  have Hpi := Lib.hid hpi
  have hbs := h.str
  have Hbs := Lib.hid hbs
  have hblt : Hid (b < w.heap.size) := Lib.hid h.blt
  clear h h1 hok hoff hp hbs hpi
  go_enter_defers Tryz.func9, Tryz.ntmps9
  go_wp2_with (go_at_call 21; refine (lock_free Tryz.muLib ⟨b, 0, none⟩ _ hs (hfz 0)).mono ?_; rintro e w' ⟨rfl, rfl⟩)
  refine (pages_any _ own 1 b D hD1.out Hok.out.no' Hok.out.len').mono ?_
  rintro e w1 ⟨rfl, hc1⟩
  have h2 := hD1.out.chg hc1 (fun _ _ f => f)
  have hD2 := Lib.hid h2
  obtain ⟨hs2, hfz2⟩ := h2.lockCell
  obtain ⟨_, h6, _, _, h9⟩ := h2.cells
  rw [Hoff.out] at h6
  have Hc1 := Lib.hid hc1
  have f9 := hfz2 9
  obtain ⟨sema, lv, pv, m, hF⟩ := h2
  obtain ⟨_, _, c5⟩ := hF.fields
  obtain ⟨hmo, M, hM, hMq⟩ := hF.now
  have hhas := hMq i
  rw [Hp.out] at hhas
  obtain ⟨ls, hll, ⟨hla, _⟩, hlp⟩ := hF.last
  obtain ⟨lga, lcap, rfl, _, _, hlg⟩ := ownsRow_slice hla
  have hil : i < D.lasting.length := (List.getElem?_eq_some_iff.1 Hpi.out).1
  obtain ⟨lg, rfl⟩ := hlg (by omega)
  have c3 := hF.fields.1
  obtain ⟨v, hv, gv, cv, rfl, hrole, hrow⟩ := hlp i p Hpi.out
  have cl : w1.cell? ⟨lg, i, none⟩ = some (.slice (some ⟨gv, 0, none⟩) p.length cv) := (hla.cellAt i (by omega)).trans hv
  have hmb : m ≠ b := fun e => by
    subst e
    rw [hF.str] at hmo; cases hmo
  have hM1 := hM.setCell (a := ⟨b, 9, none⟩) hmb (.int .i64 (wrap64 (D.reads + 1)))
  have hvb : gv ≠ b := fun e => by
    subst e; rw [Hbs.out] at hrole; cases hrole
  have hrow1 := ownsRow_chg hrow (chg1 (b := b) (o := 9) (.int .i64 (wrap64 (D.reads + 1)))) (fun g e => by simp [Value.ownBlock] at e; omega)
  have hlen : p.length = 4096 := by
    exact Hok.out.page p (List.mem_of_getElem? Hpi.out)
  have hne : Hid (p ≠ []) := Lib.hid (fun e => by rw [e] at hlen; simp at hlen)
  have hS : Hid (Sees (w1.setCell ⟨b, 9, none⟩ (.int .i64 (wrap64 (D.reads + 1)))) (.slice (some ⟨gv, 0, none⟩) p.length cv) p) := by
    obtain ⟨s1, s2⟩ := row_sees hrow1
    exact Lib.hid ⟨gv, 0, cv, rfl, s1, by rw [hlen]; exact pl_reach, s2⟩
  have h3 := hD2.out.set (L' := 1) (D' := D.looked) 9 (.int .i64 (wrap64 (D.reads + 1))) (fun _ _ _ _ => rfl) rfl rfl rfl hD2.out.fuse
  have H3 := Lib.hid h3
  have hlgb : lg ≠ b := fun e => by
    subst e
    have := hF.blk
    rcases hla.2 with ⟨h0, _⟩ | ⟨g', _, cur, h0, _, hh, _⟩
    · cases h0
    · cases h0; rw [hh] at this; cases this
  have Hhas := Lib.hid hhas
  clear hc1 hF hmo hM hMq hhas hrole hrow hrow1 hlen h3 hfz2 hla hlp hv hll
  go_wp2_with (at_lookup; refine wpList_lookup_own_ok _ rfl _ _ 67 rfl 3 47 law3 Tryz.underlying67 RV (zero27 _) (.held (.slice none 0 0)) [] rfl m D.wr M rfl hM1 _ (.int .i64 i) rfl (keyInt (by omega) (by omega)) ?_; intro v' ps' hv'; rw [Hhas.out]; obtain rfl : v' = .slice none 0 0 := held_eq hv' (Maps.atKey_of_not_has Hhas.out _); clear hv')
  refine (clone_any _ _ p hS.out hne.out).mono ?_
  rintro e w3 ⟨g, cg, rfl, hge, hrow3, hc3⟩
  have h4 := H3.out.chg hc3 (fun _ _ f => f)
  obtain ⟨hs4, hfz4⟩ := h4.lockCell
  have H4 := Lib.hid h4
  have Hrow3 := Lib.hid hrow3
  have Hc3 := Lib.hid hc3
  clear h4 hrow3 hc3
  go_wp2
  refine leaves_cons (f := 22) (args := #[.pointer (some ⟨b, 0, none⟩)]) (by simp) (by simp [go_sem]) ?_
  refine (unlock_deferred Tryz.muLib ⟨b, 0, none⟩ .returning _ hs4 (hfz4 0)).mono ?_
  rintro e u' w'' ⟨rfl, rfl, rfl⟩
  have hcw : Chg (fun x => x = b) w (w1.setCell ⟨b, 9, none⟩ (.int .i64 (wrap64 (D.reads + 1)))) := chgS ((chg1 (b := b) (o := 0) _).trans Hc1.out (fun _ f => f.elim)) 9 _
  have hcs := hcw.size
  have hbl : b < w.heap.size := hblt.out
  refine ⟨_, results_tmp2 rfl _ _ _, g, cg, rfl, Nat.le_trans hcs hge, ownsRow_chg Hrow3.out (chg1 (b := b) (o := 0) _) (fun g' e => by simp [Value.ownBlock] at e; omega), H4.out.lock 1 0, chgS (hcw.trans Hc3.out (fun _ f => f.elim)) 0 _⟩

set_option maxRecDepth 100000 in
set_option maxHeartbeats 800000 in
theorem read_zero (w : World) (own : Own) (b : Nat) (D : DS) (h : DiskAt w own 0 b D) (hok : D.ok) (i : Nat) (hi : i < D.pages) (hoff : D.off = false) (hp : lastOf D.pending i = none) (hpi : D.lasting.length ≤ i) (hi2 : i ≤ 1000000) :
    Calls Tryz.prog 9 #[.pointer (some ⟨b, 0, none⟩), .int .i64 i] w fun e w' => ∃ g cap, e = .returned (.tuple #[.slice (some ⟨g, 0, none⟩) 4096 cap, .int .i64 0]) ∧ w.heap.size ≤ g ∧ w'.ownsRow 0 5 1 (.slice (some ⟨g, 0, none⟩) 4096 cap) 4096 (bVs zpage) ∧ DiskAt w' own 0 b D.looked ∧ Chg (fun x => x = b) w w' := by
  have h1 := h.lock 0 1
  have hD1 := Lib.hid h1
  have Hok := Lib.hid hok
  obtain ⟨hs, hfz⟩ := h.lockCell
  have Hoff := Lib.hid hoff
  have Hp := Lib.hid hp
  have Hpi := Lib.hid hpi
  have hbs := h.str
  have Hbs := Lib.hid hbs
  have hblt : Hid (b < w.heap.size) := Lib.hid h.blt
  clear h h1 hok hoff hp hbs hpi
  go_enter_defers Tryz.func9, Tryz.ntmps9
  go_wp2_with (go_at_call 21; refine (lock_free Tryz.muLib ⟨b, 0, none⟩ _ hs (hfz 0)).mono ?_; rintro e w' ⟨rfl, rfl⟩)
  refine (pages_any _ own 1 b D hD1.out Hok.out.no' Hok.out.len').mono ?_
  rintro e w1 ⟨rfl, hc1⟩
  have h2 := hD1.out.chg hc1 (fun _ _ f => f)
  have hD2 := Lib.hid h2
  obtain ⟨hs2, hfz2⟩ := h2.lockCell
  obtain ⟨_, h6, _, _, h9⟩ := h2.cells
  rw [Hoff.out] at h6
  have Hc1 := Lib.hid hc1
  have f9 := hfz2 9
  obtain ⟨sema, lv, pv, m, hF⟩ := h2
  obtain ⟨_, _, c5⟩ := hF.fields
  obtain ⟨hmo, M, hM, hMq⟩ := hF.now
  have hhas := hMq i
  rw [Hp.out] at hhas
  obtain ⟨ls, hll, ⟨hla, _⟩, hlp⟩ := hF.last
  obtain ⟨lga, lcap, rfl, _, _, hlg⟩ := ownsRow_slice hla
  have c3 := hF.fields.1
  have hmb : m ≠ b := fun e => by
    subst e
    rw [hF.str] at hmo; cases hmo
  have hM1 := hM.setCell (a := ⟨b, 9, none⟩) hmb (.int .i64 (wrap64 (D.reads + 1)))
  have h3 := hD2.out.set (L' := 1) (D' := D.looked) 9 (.int .i64 (wrap64 (D.reads + 1))) (fun _ _ _ _ => rfl) rfl rfl rfl hD2.out.fuse
  have H3 := Lib.hid h3
  have hmk := run_zpage
  have Hhas := Lib.hid hhas
  have hpi' := Hpi.out
  clear hc1 hF hmo hM hMq hhas h3 hfz2 hla hlp hll hlg
  go_wp2_with (at_lookup; refine wpList_lookup_own_ok _ rfl _ _ 67 rfl 3 47 law3 Tryz.underlying67 RV (zero27 _) (.held (.slice none 0 0)) [] rfl m D.wr M rfl hM1 _ (.int .i64 i) rfl (keyInt (by omega) (by omega)) ?_; intro v' ps' hv'; rw [Hhas.out]; obtain rfl : v' = .slice none 0 0 := held_eq hv' (Maps.atKey_of_not_has Hhas.out _); clear hv')
  have hcw : Chg (fun x => x = b) w (w1.setCell ⟨b, 9, none⟩ (.int .i64 (wrap64 (D.reads + 1)))) := chgS ((chg1 (b := b) (o := 0) _).trans Hc1.out (fun _ f => f.elim)) 9 _
  have h4 := H3.out.chg ((Chg.refl (fun _ => False) (w1.setCell ⟨b, 9, none⟩ (.int .i64 (wrap64 (D.reads + 1))))).alloc (.cells zcells 5)) (fun _ _ f => f)
  obtain ⟨hs4, hfz4⟩ := h4.lockCell
  have hsz : (w1.setCell ⟨b, 9, none⟩ (.int .i64 (wrap64 (D.reads + 1)))).heap.size = w1.heap.size := by simp [World.setCell]
  have hrz := ownsRow_zpage (w1.setCell ⟨b, 9, none⟩ (.int .i64 (wrap64 (D.reads + 1))))
  rw [hsz] at hrz
  refine leaves_cons (f := 22) (args := #[.pointer (some ⟨b, 0, none⟩)]) (by simp) (by simp [go_sem]) ?_
  refine (unlock_deferred Tryz.muLib ⟨b, 0, none⟩ .returning _ hs4 (hfz4 0)).mono ?_
  rintro e u' w'' ⟨rfl, rfl, rfl⟩
  have hcs := hcw.size
  rw [hsz] at hcs
  have hbl : b < w.heap.size := hblt.out
  refine ⟨_, results_tmp2 rfl _ _ _, w1.heap.size, 4096, rfl, hcs, ownsRow_chg hrz (chg1 (b := b) (o := 0) _) (fun g' e => by simp [Value.ownBlock] at e; omega), h4.lock 1 0, chgS (hcw.alloc _) 0 _⟩


def DS.read (D : DS) (i : Int) : Int × List UInt8 × DS :=
  if i < 0 ∨ (D.pages : Int) ≤ i then (121, [], D) else if D.off then (123, [], D) else (0, D.page i.toNat, D.looked)

/-- Bytes that are handed out: in new memory, or nil. -/
def Handed (w w' : World) (v : Value) (bs : List UInt8) : Prop := w'.ownsRow 0 5 1 v bs.length (bVs bs) ∧ ∀ g, v.ownBlock = some g → w.heap.size ≤ g

theorem Handed.nil (w w' : World) : Handed w w' (.slice none 0 0) [] := ⟨World.ownsRow_nil _ _ _ _, fun g e => by simp [Value.ownBlock] at e⟩

theorem read_any (w : World) (own : Own) (b : Nat) (D : DS) (h : DiskAt w own 0 b D) (hok : D.ok) (hpl : D.pages ≤ 1000000) (i : Int) :
    Calls Tryz.prog 9 #[.pointer (some ⟨b, 0, none⟩), .int .i64 i] w fun e w' => ∃ v, e = .returned (.tuple #[v, .int .i64 (D.read i).1]) ∧ Handed w w' v (D.read i).2.1 ∧ DiskAt w' own 0 b (D.read i).2.2 ∧ Chg (fun x => x = b) w w' := by
  by_cases h0 : i < 0
  · refine (read_neg w own b D h i h0).mono ?_
    rintro e w' ⟨rfl, r1, r2⟩
    rw [show D.read i = (121, [], D) by simp [DS.read, h0]]
    exact ⟨_, rfl, Handed.nil _ _, r1, r2⟩
  · obtain ⟨n, rfl⟩ : ∃ n : Nat, i = n := ⟨i.toNat, by omega⟩
    by_cases h1 : D.pages ≤ n
    · refine (read_far w own b D h hok n h1).mono ?_
      rintro e w' ⟨rfl, r1, r2⟩
      rw [show D.read n = (121, [], D) by simp [DS.read, h1]]
      exact ⟨_, rfl, Handed.nil _ _, r1, r2⟩
    · cases h2 : D.off with
      | true =>
        refine (read_off w own b D h hok n (by omega) h2).mono ?_
        rintro e w' ⟨rfl, r1, r2⟩
        rw [show D.read n = (123, [], D) by simp [DS.read, h0, h1, h2]]
        exact ⟨_, rfl, Handed.nil _ _, r1, r2⟩
      | false =>
        rw [show D.read n = (0, D.page n, D.looked) by simp [DS.read, h0, h1, h2]]
        cases h3 : lastOf D.pending n with
        | some p =>
          refine (read_now w own b D h hok n (by omega) h2 p h3 (by omega)).mono ?_
          rintro e w' ⟨g, cap, rfl, r1, r2, r3, r4⟩
          rw [show D.page n = p by simp [DS.page, h3]]
          exact ⟨_, rfl, ⟨r2, fun g' e => by cases e; exact r1⟩, r3, r4⟩
        | none =>
          cases h4 : D.lasting[n]? with
          | some p =>
            refine (read_old w own b D h hok n (by omega) h2 p h3 h4 (by omega)).mono ?_
            rintro e w' ⟨g, cap, rfl, r1, r2, r3, r4⟩
            rw [show D.page n = p by simp [DS.page, h3, List.getD_eq_getElem?_getD, h4]]
            exact ⟨_, rfl, ⟨r2, fun g' e => by cases e; exact r1⟩, r3, r4⟩
          | none =>
            refine (read_zero w own b D h hok n (by omega) h2 h3 (List.getElem?_eq_none_iff.1 h4) (by omega)).mono ?_
            rintro e w' ⟨g, cap, rfl, r1, r2, r3, r4⟩
            rw [show D.page n = zpage by simp [DS.page, h3, List.getD_eq_getElem?_getD, h4]]
            exact ⟨_, rfl, ⟨by rw [zpage_length]; exact r2, fun g' e => by cases e; exact r1⟩, r3, r4⟩

end Go.Proofs.YtckioocahmbhkaaGreatDoor
