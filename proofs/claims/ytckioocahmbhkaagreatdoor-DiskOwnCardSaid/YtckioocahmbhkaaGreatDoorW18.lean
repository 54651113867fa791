/- The calls as a law makes them; the chapter's example. -/
import Derived.Test.YtckioocahmbhkaaGreatDoorW17
import Derived.Outline
namespace Go.Proofs.YtckioocahmbhkaaGreatDoor
open Go Go.RowKit Go.Maps Go.MuLone

/-- The disk D lies at b, made since w0; what was there at w0 is as it was. -/
structure St (w0 w : World) (own : Own) (b : Nat) (D : DS) : Prop where
  disk : DiskAt w own 0 b D
  below : Below w0.heap.size w0 w
  new : ∀ k, own.blocks k → w0.heap.size ≤ k

theorem St.lt {w0 w : World} {own : Own} {b : Nat} {D : DS} (h : St w0 w own b D) {k : Nat} (hk : own.blocks k) : k < w.heap.size := by
  obtain ⟨_, _, _, _, hF⟩ := h.disk
  exact hF.lt k hk
theorem St.str {w0 w : World} {own : Own} {b : Nat} {D : DS} (h : St w0 w own b D) : own b = some .str := h.disk.str

theorem St.step {w0 w w' : World} {own own' : Own} {b : Nat} {D D' : DS} (h : St w0 w own b D) (hD : DiskAt w' own' 0 b D') (hst : Step w own w' own') : St w0 w' own' b D' :=
  ⟨hD, (hst.below h.below h.new).1, (hst.below h.below h.new).2⟩
theorem St.stepb {w0 w w' : World} {own : Own} {b : Nat} {D D' : DS} (h : St w0 w own b D) (hD : DiskAt w' own 0 b D') (hc : Chg (fun x => x = b) w w') : St w0 w' own b D' :=
  h.step hD (Step.of_b h.str hc)
/-- Others' work. -/
theorem St.other {w0 w w' : World} {own : Own} {b : Nat} {D : DS} {S : Nat → Prop} (h : St w0 w own b D) (hc : Chg S w w') (hs : ∀ k, S k → ¬ own.blocks k ∧ w0.heap.size ≤ k) : St w0 w' own b D :=
  ⟨h.disk.chg hc (fun g hg e => (hs g e).1 hg), hc.below' h.below (fun k hk => (hs k hk).2), h.new⟩
theorem St.free {w0 w : World} {own : Own} {b : Nat} {D : DS} (h : St w0 w own b D) {g : Nat} (hg : w.heap.size ≤ g) : ¬ own.blocks g := fun e => by have := h.lt e; omega

theorem full_lit (w : World) (x : UInt8) (n : Int) (hn : n = x.toNat) :
    Calls Tryz.prog 7 #[.int .u8 n] w fun e w' => e = .returned (.slice (some ⟨w.heap.size, 0, none⟩) 4096 4096) ∧ w'.ownsRow 0 5 1 (.slice (some ⟨w.heap.size, 0, none⟩) 4096 4096) 4096 (bVs (rep 4096 x)) ∧ Chg (fun _ => False) w w' ∧ w.heap.size < w'.heap.size := by
  subst hn
  exact full_any w x

theorem write_page {w0 w : World} {own : Own} {b : Nat} {D : DS} (h : St w0 w own b D) (hok : D.ok) (i : Int) {g cap : Nat} {p : List UInt8} (hp : p.length = 4096) (hr : w.ownsRow 0 5 1 (.slice (some ⟨g, 0, none⟩) 4096 cap) 4096 (bVs p)) (hg : ¬ own.blocks g)
    (hc : D.cap ≤ 524287) (hwr : D.wr < 1000000) (hpn : D.pending.length < 1000000) {c : Int} {D' : DS} (hD : D.write i p = (c, D')) :
    Calls Tryz.prog 6 #[.pointer (some ⟨b, 0, none⟩), .int .i64 i, .slice (some ⟨g, 0, none⟩) 4096 cap] w fun e w' => e = .returned (.int .i64 c) ∧ ∃ own', St w0 w' own' b D' ∧ Step w own w' own' := by
  obtain ⟨s1, s2⟩ := row_sees hr
  have := write_any w own b D h.disk hok i (some ⟨g, 0, none⟩) cap p (fun _ => ⟨g, 0, rfl, hg, s2⟩) (by omega) hc hwr hpn
  rw [hp, hD] at this
  refine this.mono ?_
  rintro e w' ⟨rfl, own', h1, h2⟩
  exact ⟨rfl, own', h.step h1 h2, h2⟩

theorem sync_st {w0 w : World} {own : Own} {b : Nat} {D : DS} (h : St w0 w own b D) (hok : D.ok) {c : Int} {D' : DS} (hD : D.sync = (c, D')) :
    Calls Tryz.prog 8 #[.pointer (some ⟨b, 0, none⟩)] w fun e w' => e = .returned (.int .i64 c) ∧ ∃ own', St w0 w' own' b D' ∧ Step w own w' own' := by
  have := sync_any w own b D h.disk hok
  rw [hD] at this
  refine this.mono ?_
  rintro e w' ⟨rfl, own', h1, h2⟩
  exact ⟨rfl, own', h.step h1 h2, h2⟩

theorem arm_st {w0 w : World} {own : Own} {b : Nat} {D : DS} (h : St w0 w own b D) (k : Int) (hk : k ≤ 9223372036854775807) {c : Int} {D' : DS} (hD : D.arm k = (c, D')) :
    Calls Tryz.prog 17 #[.pointer (some ⟨b, 0, none⟩), .int .i64 k] w fun e w' => e = .returned (.int .i64 c) ∧ St w0 w' own b D' ∧ Step w own w' own := by
  have := arm_any w own b D h.disk k hk
  rw [hD] at this
  refine this.mono ?_
  rintro e w' ⟨rfl, h1, h2⟩
  exact ⟨rfl, h.stepb h1 h2, Step.of_b h.str h2⟩

theorem crash_st {w0 w : World} {own : Own} {b : Nat} {D : DS} (h : St w0 w own b D) (hok : D.ok) (v : Value) (fs : List (Int × Int)) (hfs : SeesF w own v fs) {D' : DS} (hD : D.crash fs = D') :
    Calls Tryz.prog 19 #[.pointer (some ⟨b, 0, none⟩), v] w fun e w' => e = .returned (.tuple #[]) ∧ ∃ own', St w0 w' own' b D' ∧ Step w own w' own' := by
  have := crash_any w own b D h.disk hok v fs hfs
  rw [hD] at this
  refine this.mono ?_
  rintro e w' ⟨rfl, own', h1, h2⟩
  exact ⟨rfl, own', h.step h1 h2, h2⟩

theorem read_st {w0 w : World} {own : Own} {b : Nat} {D : DS} (h : St w0 w own b D) (hok : D.ok) (hpl : D.pages ≤ 1000000) (i : Int) {c : Int} {bs : List UInt8} {D' : DS} (hD : D.read i = (c, bs, D')) :
    Calls Tryz.prog 9 #[.pointer (some ⟨b, 0, none⟩), .int .i64 i] w fun e w' => ∃ a cap, e = .returned (.tuple #[.slice a bs.length cap, .int .i64 c]) ∧ Handed w w' (.slice a bs.length cap) bs ∧ St w0 w' own b D' ∧ Step w own w' own := by
  have := read_any w own b D h.disk hok hpl i
  rw [hD] at this
  refine this.mono ?_
  rintro e w' ⟨v, rfl, h1, h2, h3⟩
  obtain ⟨a, cap, rfl, _⟩ := ownsRow_slice h1.1
  exact ⟨a, cap, rfl, h1, h.stepb h2 h3, Step.of_b h.str h3⟩

theorem pages_st {w0 w : World} {own : Own} {b : Nat} {D : DS} (h : St w0 w own b D) (hok : D.ok) {n : Nat} (hn : D.pages = n) :
    Calls Tryz.prog 20 #[.pointer (some ⟨b, 0, none⟩)] w fun e w' => e = .returned (.int .i64 n) ∧ St w0 w' own b D ∧ Step w own w' own := by
  have := pages_lock w own b D h.disk hok.no' hok.len'
  rw [hn] at this
  refine this.mono ?_
  rintro e w' ⟨rfl, h1, h2⟩
  exact ⟨rfl, h.stepb h1 h2, Step.of_b h.str h2⟩

theorem new_st {w0 w : World} (hb : Below w0.heap.size w0 w) (cap : Int) (h1 : 2 ≤ cap) (h2 : cap ≤ 524287) :
    Calls Tryz.prog 5 #[.int .i64 cap] w fun e w' => ∃ b own, e = .returned (.pointer (some ⟨b, 0, none⟩)) ∧ St w0 w' own b (DS.new cap) ∧ Chg (fun _ => False) w w' ∧ ∀ k, own.blocks k → w.heap.size ≤ k := by
  refine (new_yes w cap h1 h2).mono ?_
  rintro e w' ⟨rfl, h3, h4⟩
  exact ⟨_, _, rfl, ⟨h3, h4.below' hb (fun _ f => f.elim), fun k hk => Nat.le_trans hb.size (own0_blocks hk).1⟩, h4, fun k hk => (own0_blocks hk).1⟩

/-- The caller writes into a slice of its own. -/
theorem St.store {w0 w : World} {own : Own} {b : Nat} {D : DS} (h : St w0 w own b D) {g o : Nat} (v : Value) (hg : ¬ own.blocks g) (hw : w0.heap.size ≤ g) : St w0 (w.setCell ⟨g, o, none⟩ v) own b D :=
  h.other ((Chg.refl (fun x => x = g) w).setCell (p := ⟨g, o, none⟩) (.inl rfl) v) (fun k hk => by subst hk; exact ⟨hg, hw⟩)

theorem bVs_set (p : List UInt8) (i : Nat) (x : UInt8) : bVs (p.set i x) = (bVs p).set i (bV x) := by simp [bVs, List.map_set]

theorem same_yes (w : World) (v1 v2 : Value) (p : List UInt8) (h1 : SeesB w v1 p) (h2 : SeesB w v2 p) : Calls Tryz.prog 16 #[v1, v2] w fun e w' => e = .returned (.bool true) ∧ w = w' :=
  (same_any w v1 v2 p p h1 h2).mono fun _ _ ⟨h, k⟩ => ⟨by rw [h, decide_eq_true rfl], k⟩

theorem cell_new (w : World) (cs : Array Value) (t : TypeId) (i : Nat) : (w.alloc (.cells cs t)).cell? ⟨w.heap.size, i, none⟩ = cs[i]? := by
  unfold World.cell?
  rw [heap_alloc_new w _]; simp

theorem Step.mine {w w' : World} {own own' : Own} (hst : Step w own w' own') {e : TypeId} {sz g n cap : Nat} {xs : List Value} (hn : ¬ own.blocks g) (h : w.ownsRow 0 e sz (.slice (some ⟨g, 0, none⟩) n cap) n xs) :
    ¬ own'.blocks g ∧ w'.ownsRow 0 e sz (.slice (some ⟨g, 0, none⟩) n cap) n xs := ⟨(hst.keep hn (row_lt h)).1, hst.row h hn⟩

set_option maxRecDepth 100000 in
set_option maxHeartbeats 1600000 in
theorem first_any (w : World) : Calls Tryz.prog 4 #[] w fun e w' => e = .returned (.bool true) ∧ Below w.heap.size w w' := by
  go_enter Tryz.func4, Tryz.ntmps4
  go_wp2_with fail
  refine (new_st (w0 := w) (Below.refl _ w) 3 (by omega) (by omega)).mono ?_
  rintro e w1 ⟨b, own, rfl, s1, hc1, _⟩
  go_wp2_with fail
  refine (full_lit _ 65 _ rfl).mono ?_
  rintro e w2 ⟨rfl, rA, hc2, hlt2⟩
  obtain ⟨ga, hga⟩ : ∃ ga, ga = w1.heap.size := ⟨_, rfl⟩
  rw [← hga] at rA ⊢
  have fA : ¬ own.blocks ga := s1.free (by omega)
  have gA : w.heap.size ≤ ga := by have := s1.below.size; omega
  have s2 := s1.other hc2 (fun _ f => f.elim)
  clear s1 hc1 hc2 hlt2 hga
  go_wp2_with fail
  refine (write_page s2 E0_ok 0 pA_len rA fA (by decide) (by decide) (by decide) w01).mono ?_
  rintro e w3 ⟨rfl, own3, s3, t3⟩
  obtain ⟨fA, rA⟩ := t3.mine fA rA
  clear s2 t3
  go_wp2_with fail
  refine (sync_st s3 E1_ok w12).mono ?_
  rintro e w4 ⟨rfl, own4, s4, t4⟩
  obtain ⟨fA, rA⟩ := t4.mine fA rA
  clear s3 t4
  go_wp2_with fail
  refine (full_lit _ 67 _ rfl).mono ?_
  rintro e w5 ⟨rfl, rC, hc5, hlt5⟩
  obtain ⟨gc, hgc⟩ : ∃ gc, gc = w4.heap.size := ⟨_, rfl⟩
  rw [← hgc] at rC ⊢
  have fC : ¬ own4.blocks gc := s4.free (by omega)
  have s5 := s4.other hc5 (fun _ f => f.elim)
  replace rA := ownsRow_chg rA hc5 (fun _ _ f => f)
  clear s4 hc5 hlt5 hgc
  go_wp2_with fail
  refine (write_page s5 E2_ok 0 pC_len rC fC (by decide) (by decide) (by decide) w23).mono ?_
  rintro e w6 ⟨rfl, own6, s6, t6⟩
  obtain ⟨fA, rA⟩ := t6.mine fA rA
  clear s5 t6 rC fC
  go_wp2_with fail
  refine (arm_st s6 2 (by decide) w34).mono ?_
  rintro e w7 ⟨rfl, s7, t7⟩
  obtain ⟨fA, rA⟩ := t7.mine fA rA
  clear s6 t7
  go_wp2_with fail
  refine (full_lit _ 67 _ rfl).mono ?_
  rintro e w8 ⟨rfl, rC, hc8, hlt8⟩
  obtain ⟨gc2, hgc2⟩ : ∃ gc, gc = w7.heap.size := ⟨_, rfl⟩
  rw [← hgc2] at rC ⊢
  have fC : ¬ own6.blocks gc2 := s7.free (by omega)
  have s8 := s7.other hc8 (fun _ f => f.elim)
  replace rA := ownsRow_chg rA hc8 (fun _ _ f => f)
  clear s7 hc8 hlt8 hgc2
  go_wp2_with fail
  refine (write_page s8 E4_ok 1 pC_len rC fC (by decide) (by decide) (by decide) w45).mono ?_
  rintro e w9 ⟨rfl, own9, s9, t9⟩
  obtain ⟨fA, rA⟩ := t9.mine fA rA
  clear s8 t9 rC fC
  go_wp2_with fail
  refine (sync_st s9 E5_ok w56).mono ?_
  rintro e w10 ⟨rfl, own10, s10, t10⟩
  obtain ⟨fA, rA⟩ := t10.mine fA rA
  clear s9 t10
  go_wp2_with (go_at_call 18; refine (num_any _ _).mono ?_; rintro e w' ⟨rfl, rfl⟩)
  have s11 : St w (w10.alloc (.cells #[.int .i64 2, .int .i64 2] 64)) own10 b E6 := s10.other ((Chg.refl (fun _ => False) w10).alloc _) (fun _ f => f.elim)
  have sF : SeesF (w10.alloc (.cells #[.int .i64 2, .int .i64 2] 64)) own10 (.slice (some ⟨w10.heap.size, 0, none⟩) 1 1) [(2, 2)] := by
    refine ⟨_, _, rfl, by unfold reach; decide, fun _ => ⟨_, rfl, s10.free (Nat.le_refl _), fun i f hi => ?_⟩⟩
    match i, hi with
    | 0, hi =>
      simp at hi
      subst hi
      exact ⟨(cell_new _ _ _ _).trans rfl, (cell_new _ _ _ _).trans rfl⟩
    | i + 1, hi => simp at hi
  have rA11 := rA.alloc (.cells #[.int .i64 2, .int .i64 2] 64)
  refine (crash_st s11 E6_ok _ [(2, 2)] sF w67).mono ?_
  rintro e w12 ⟨rfl, own12, s12, t12⟩
  obtain ⟨fA, rA⟩ := t12.mine fA rA11
  clear s10 s11 t12 sF rA11
  go_wp2_with fail
  have ltA := row_lt rA
  refine (read_st s12 E7_ok (by decide) 0 w78).mono ?_
  rintro e w13 ⟨ra, rc, rfl, hT, s13, t13⟩
  obtain ⟨fA, rA⟩ := t13.mine fA rA
  have cA0 : w13.cell? ⟨ga, 0, none⟩ = some (.int .u8 65) := by rw [rA.cellAt 0 (by omega)]; rfl
  have fz0 := rA.frozenAt 0
  have s14 := s13.store (o := 0) (.int .u8 67) fA gA
  have rA1 := ownsRow_setCell rA 0 (.int .u8 67) (by rw [bVs_length, rep_length]; omega)
  have cA1 : (w13.setCell ⟨ga, 0, none⟩ (.int .u8 67)).cell? ⟨ga, 1, none⟩ = some (.int .u8 65) := by rw [rA1.cellAt 1 (by omega)]; rfl
  have fz1 := rA1.frozenAt 1
  have s15 := s14.store (o := 1) (.int .u8 67) fA gA
  have rA2 := ownsRow_setCell rA1 1 (.int .u8 67) (by rw [List.length_set, bVs_length, rep_length]; omega)
  have hgt : ∀ g, (Value.slice ra pT.length rc).ownBlock = some g → g ≠ ga := fun g e => by
    have := hT.2 g e
    omega
  have rT := ownsRow_chg (ownsRow_chg hT.1 ((Chg.refl (fun x => x = ga) w13).setCell (p := ⟨ga, 0, none⟩) (.inl rfl) (.int .u8 67)) hgt) ((Chg.refl (fun x => x = ga) (w13.setCell ⟨ga, 0, none⟩ (.int .u8 67))).setCell (p := ⟨ga, 1, none⟩) (.inl rfl) (.int .u8 67)) hgt
  have S1 := SeesB.of_row rT
  have S2 : SeesB ((w13.setCell ⟨ga, 0, none⟩ (.int .u8 67)).setCell ⟨ga, 1, none⟩ (.int .u8 67)) (.slice (some ⟨ga, 0, none⟩) 4096 4096) pT := by
    have e : pT.length = 4096 := by rw [← pT_eq, List.length_set, List.length_set, pA_len]
    have := SeesB.of_row (w := (w13.setCell ⟨ga, 0, none⟩ (.int .u8 67)).setCell ⟨ga, 1, none⟩ (.int .u8 67)) (v := .slice (some ⟨ga, 0, none⟩) 4096 4096) (bs := pT) (by rw [e, ← pT_eq, bVs_set, bVs_set]; exact rA2)
    exact this
  have hsame := Lib.hid (same_yes _ _ _ _ S1 S2)
  have hp7 : ({ E7 with reads := 1 } : DS).pages = 1 := rfl
  have ok7 : ({ E7 with reads := 1 } : DS).ok := by constructor <;> simp [E7, pT, pA_len, pC_len]
  have H15 := Lib.hid s15
  have Hok7 := Lib.hid ok7
  have Hp7 := Lib.hid hp7
  clear s12 s13 s14 s15 t13 rA rA1 rA2 rT S1 S2 hT hp7 ok7
  go_wp2_with fail
  refine hsame.out.mono ?_
  rintro e w' ⟨rfl, rfl⟩
  go_wp2_with (first
    | (go_at_call 18; refine (num_any _ _).mono ?_; rintro e w' ⟨rfl, rfl⟩)
    | (go_at_call 20; refine (pages_st H15.out Hok7.out Hp7.out).mono ?_; rintro e w16 ⟨rfl, s16, _⟩; have H16 := Lib.hid s16; clear s16))
  go_ret
  exact ⟨rfl, H16.out.below⟩

end Go.Proofs.YtckioocahmbhkaaGreatDoor
