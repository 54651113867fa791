/- Walks: the book's lists of writes: are they as they were? What keeping many lists does. -/
import Derived.Test.YtckioocahmbhkaaGreatDoorBWw5z
import Derived.Test.YtckioocahmbhkaaGreatDoorBKb6
import Derived.Test.YtckioocahmbhkaaGreatDoorWS
namespace Go.Proofs.YtckioocahmbhkaaGreatDoor
open Go Go.RowKit Go.Maps

/-- Bytes that are somebody's. -/
def BO (w : World) (own : BOwn) (v : Value) (bs : List UInt8) : Prop := w.ownsRow 0 5 1 v bs.length (bVs bs) ∧ ∀ g, v.ownBlock = some g → ∃ r, own g = some r ∧ 2 ≤ r.1
theorem BO.chg {w w' : World} {own : BOwn} {v : Value} {bs : List UInt8} {S : Nat → Prop} (h : BO w own v bs) (hc : Chg S w w') (hs : ∀ g r, own g = some r → 2 ≤ r.1 → ¬ S g) : BO w' own v bs :=
  ⟨ownsRow_chg h.1 hc (fun g e => by obtain ⟨r, h1, h2⟩ := h.2 g e; exact hs g r h1 h2), h.2⟩
theorem BO.more {w : World} {own own' : BOwn} {v : Value} {bs : List UInt8} (h : BO w own v bs) (hk : ∀ g r, own g = some r → own' g = some r) : BO w own' v bs :=
  ⟨h.1, fun g e => by obtain ⟨r, h1, h2⟩ := h.2 g e; exact ⟨r, hk g r h1, h2⟩⟩
/-- A list of writes, all of it somebody's. -/
def WL (w : World) (own : BOwn) (v : Value) (qs : List (Nat × List UInt8)) : Prop :=
  ∃ vs : List Value, vs.length = qs.length ∧ w.ownsRow 0 78 2 v qs.length (pcells qs vs) ∧ (∀ g, v.ownBlock = some g → ∃ r, own g = some r ∧ 2 ≤ r.1) ∧
    ∀ (j : Nat) x q, vs[j]? = some x → qs[j]? = some q → BO w own x q.2
theorem WL.chg {w w' : World} {own : BOwn} {v : Value} {qs : List (Nat × List UInt8)} {S : Nat → Prop} (h : WL w own v qs) (hc : Chg S w w') (hs : ∀ g r, own g = some r → 2 ≤ r.1 → ¬ S g) : WL w' own v qs := by
  obtain ⟨vs, h1, h2, h3, h4⟩ := h
  exact ⟨vs, h1, ownsRow_chg h2 hc (fun g e => by obtain ⟨r, k1, k2⟩ := h3 g e; exact hs g r k1 k2), h3, fun j x q hx hq => (h4 j x q hx hq).chg hc hs⟩
theorem WL.more {w : World} {own own' : BOwn} {v : Value} {qs : List (Nat × List UInt8)} (h : WL w own v qs) (hk : ∀ g r, own g = some r → own' g = some r) : WL w own' v qs := by
  obtain ⟨vs, h1, h2, h3, h4⟩ := h
  exact ⟨vs, h1, h2, fun g e => by obtain ⟨r, k1, k2⟩ := h3 g e; exact ⟨r, hk g r k1, k2⟩, fun j x q hx hq => (h4 j x q hx hq).more hk⟩
theorem WL.sees {w : World} {own : BOwn} {v : Value} {qs : List (Nat × List UInt8)} (h : WL w own v qs) : WSees w v qs := by
  obtain ⟨vs, h1, h2, h3, h4⟩ := h
  exact wsees_of_row h1 h2 (fun j x q hx hq => SeesB.of_row (h4 j x q hx hq).1)
theorem WL.shape {w : World} {own : BOwn} {v : Value} {qs : List (Nat × List UInt8)} (h : WL w own v qs) : ∃ a cap, v = .slice a qs.length cap := by
  obtain ⟨a, cap, e, _⟩ := h.sees
  exact ⟨a, cap, e⟩
/-- Lists of writes that are kept, and their copies. -/
structure WKept (w : World) (own : BOwn) (rv wv : Value) (xs ws : List (Value × Nat)) (cc : List (List (Nat × List UInt8))) : Prop where
  rx : RowK w own 54 29 rv xs
  rw' : RowK w own 54 30 wv ws
  lx : xs.length = cc.length
  lw : ws.length = cc.length
  lists : ∀ (i : Nat) x ps, xs[i]? = some x → cc[i]? = some ps → x.2 = ps.length ∧ WL w own x.1 ps ∧ Mine own (11, i) x.1
  was : ∀ (i : Nat) y ps, ws[i]? = some y → cc[i]? = some ps → WL w own y.1 ps
theorem WKept.nil (w : World) (own : BOwn) : WKept w own (.slice none 0 0) (.slice none 0 0) [] [] [] :=
  ⟨row_nil _ _ _ _, row_nil _ _ _ _, rfl, rfl, fun i x bs h => by simp at h, fun i x bs h => by simp at h⟩
theorem WKept.chg {w w' : World} {own : BOwn} {rv wv : Value} {xs ws : List (Value × Nat)} {cc : List (List (Nat × List UInt8))} {S : Nat → Prop} (h : WKept w own rv wv xs ws cc) (hc : Chg S w w') (hs : ∀ g r, own g = some r → (2 ≤ r.1 ∨ r = (1, 29) ∨ r = (1, 30)) → ¬ S g) : WKept w' own rv wv xs ws cc :=
  ⟨⟨ownsRow_chg h.rx.row hc (fun g e => hs g _ (h.rx.mine g e) (.inr (.inl rfl))), h.rx.mine⟩, ⟨ownsRow_chg h.rw'.row hc (fun g e => hs g _ (h.rw'.mine g e) (.inr (.inr rfl))), h.rw'.mine⟩, h.lx, h.lw,
   fun i x bs hx hb => by obtain ⟨h1, h2, h3⟩ := h.lists i x bs hx hb; exact ⟨h1, h2.chg hc (fun g r e k => hs g r e (.inl k)), h3⟩,
   fun i x bs hx hb => (h.was i x bs hx hb).chg hc (fun g r e k => hs g r e (.inl k))⟩
theorem WKept.chg0 {w w' : World} {own : BOwn} {rv wv : Value} {xs ws : List (Value × Nat)} {cc : List (List (Nat × List UInt8))} (h : WKept w own rv wv xs ws cc) (hc : Chg (fun _ => False) w w') : WKept w' own rv wv xs ws cc := h.chg hc (fun _ _ _ _ f => f)
theorem WKept.more {w : World} {own own' : BOwn} {rv wv : Value} {xs ws : List (Value × Nat)} {cc : List (List (Nat × List UInt8))} (h : WKept w own rv wv xs ws cc) (hk : ∀ g r, own g = some r → own' g = some r) : WKept w own' rv wv xs ws cc :=
  ⟨h.rx.more hk, h.rw'.more hk, h.lx, h.lw, fun i x bs hx hb => by obtain ⟨h1, h2, h3⟩ := h.lists i x bs hx hb; exact ⟨h1, h2.more hk, h3.more hk⟩, fun i x bs hx hb => (h.was i x bs hx hb).more hk⟩

set_option maxRecDepth 100000 in
set_option maxHeartbeats 8000000 in
theorem writesuntouched_any (w : World) (own : BOwn) (b : Nat) (F : Nat → Value) (hb : BookF 39 w own b F) (rv wv : Value) (xs ws : List (Value × Nat)) (cc : List (List (Nat × List UInt8))) (hrv : F 29 = rv) (hwv : F 30 = wv) (hk : WKept w own rv wv xs ws cc) (hn : cc.length ≤ 1000000) (hsz : ∀ ps ∈ cc, ps.length ≤ 1000000) :
    Calls Tryz.prog 45 #[.pointer (some ⟨b, 0, none⟩)] w fun e w' => e = .returned (.bool true) ∧ Chg (fun _ => False) w w' := by
  have HB := Lib.hid hb
  have HK := Lib.hid hk
  have HRv := Lib.hid hrv
  have HWv := Lib.hid hwv
  have HSz := Lib.hid hsz
  obtain ⟨ra, rc, rfl⟩ := hk.rx.shape
  obtain ⟨wa, wc, rfl⟩ := hk.rw'.shape
  have hlx := hk.lx
  have hlw := hk.lw
  clear hb hk hrv hwv hsz
  go_enter Tryz.func45, Tryz.ntmps45
  go_wp2_with fail
  go_loopg [3, 4] xs.length (fun gm iv _ wr => ∃ (i : Nat), i ≤ xs.length ∧ gm = xs.length - i ∧ iv = .int .i64 i ∧ Chg (fun _ => False) w wr)
  case atStart => exact ⟨0, by omega, rfl, rfl, Chg.refl _ _⟩
  case round =>
    obtain ⟨i, hi, hgm, rfl, hch⟩ := hrel
    have Hg := Lib.hid hgm
    have HCh := Lib.hid hch
    have HKr := Lib.hid (HK.out.chg0 hch)
    have hbr := HB.out.step (OStep.of0 (R := fun _ => False) HB.out.lt hch) (fun f => f)
    have k1 : wr.cell? ⟨b, 29, none⟩ = some (.slice ra xs.length rc) := by rw [hbr.cell 29 (by omega), HRv.out]
    have k2 : wr.cell? ⟨b, 30, none⟩ = some (.slice wa ws.length wc) := by rw [hbr.cell 30 (by omega), HWv.out]
    clear hgm hch hbr
    by_cases hlt : i < xs.length
    · obtain ⟨x, hx⟩ : ∃ x, xs[i]? = some x := ⟨_, List.getElem?_eq_getElem hlt⟩
      obtain ⟨y, hy⟩ : ∃ y, ws[i]? = some y := ⟨_, List.getElem?_eq_getElem (by omega)⟩
      obtain ⟨bs, hbs⟩ : ∃ bs, cc[i]? = some bs := ⟨_, List.getElem?_eq_getElem (by omega)⟩
      obtain ⟨g1, c1, e1, -, x1, -⟩ := HKr.out.rx.at' hx
      cases e1
      obtain ⟨g2, c2, e2, -, x2, -⟩ := HKr.out.rw'.at' hy
      cases e2
      obtain ⟨-, hr1, -⟩ := HKr.out.lists i x bs hx hbs
      have hr2 := HKr.out.was i y bs hy hbs
      have hl := HSz.out bs (List.mem_of_getElem? hbs)
      obtain ⟨xa, xc, ex⟩ := hr1.shape
      obtain ⟨ya, yc, ey⟩ := hr2.shape
      have HR1 := Lib.hid hr1.sees
      have HR2 := Lib.hid hr2.sees
      have hki : (i : Int) < (xs.length : Int) := by omega
      have hkj : (i : Int) < (ws.length : Int) := by omega
      have hk0 : (0 : Int) ≤ (i : Int) := by omega
      have HSame : Hid (∀ wx, Chg (fun _ => False) wr wx → Calls Tryz.prog 104 #[x.1, y.1] wx fun e w' => e = .returned (.bool true) ∧ Chg (fun _ => False) wx w') := Lib.hid (fun wx hx => samews_any wx x.1 y.1 bs (HR1.out.none hx) (HR2.out.none hx) (by omega))
      rw [ex] at x1 HSame
      rw [ey] at x2 HSame
      clear hx hy hbs hr1 hr2 ex ey hl
      go_wp2_with fail
      go_region_held3 (fun w' => w'.cell? ⟨b, 29, none⟩ = some (.slice (some ⟨g1, 0, none⟩) xs.length rc) ∧ w'.cell? ⟨b, 30, none⟩ = some (.slice (some ⟨g2, 0, none⟩) ws.length wc) ∧ w'.cell? ⟨g1, i, none⟩ = some (.slice xa bs.length xc) ∧ w'.cell? ⟨g2, i, none⟩ = some (.slice ya bs.length yc))
        (first
          | exact kx5
          | go_keep)
        ((go_simp; go_at_call 104; refine (HSame.out _ ((Chg.refl _ wr).drew)).mono ?_; rintro e w5 ⟨rfl, hc5⟩; have C5 : Hid (Chg (fun _ => False) wr w5) := Lib.hid (((Chg.refl _ wr).drew).trans hc5 (fun _ f => f.elim)); have kx5 := And.intro (bk_cell C5.out k1 (fun f => f)) (And.intro (bk_cell C5.out k2 (fun f => f)) (And.intro (bk_cell C5.out x1 (fun f => f)) (bk_cell C5.out x2 (fun f => f)))); clear hc5))
      all_goals
        go_wp2_with fail
        go_roundg (xs.length - (i + 1))
        case measure => have := Hg.out; omega
        case rel => exact ⟨i + 1, by omega, rfl, by go_num, HCh.out.trans C5.out (fun _ f => f.elim)⟩
    · have hki : ¬ (i : Int) < (xs.length : Int) := by omega
      go_wp2_with fail
      go_ret
      exact ⟨rfl, HCh.out⟩

/-- What keeping many lists does: D: the blocks that were kept. -/
structure KB (R : Nat × Nat → Prop) (w : World) (own : BOwn) (w' : World) (own' : BOwn) (D : Nat → Prop) : Prop where
  chg : Chg (fun g => ∃ r, own g = some r ∧ R r) w w'
  keep : ∀ g r, own g = some r → own' g = some r
  new : ∀ g r, own' g = some r → own g = some r ∨ w.heap.size ≤ g ∨ (2 ≤ r.1 ∧ D g)
  has : ∀ g, D g → ∃ r, own' g = some r ∧ 2 ≤ r.1
theorem KB.refl (R : Nat × Nat → Prop) (w : World) (own : BOwn) : KB R w own w own (fun _ => False) := ⟨Chg.refl _ _, fun _ _ h => h, fun _ _ h => .inl h, fun _ f => f.elim⟩
theorem KB.mono {R R' : Nat × Nat → Prop} {w w' : World} {own own' : BOwn} {D : Nat → Prop} (h : KB R w own w' own' D) (hr : ∀ r, R r → R' r) : KB R' w own w' own' D := ⟨h.chg.mono (fun _ ⟨r, e, k⟩ => ⟨r, e, hr r k⟩), h.keep, h.new, h.has⟩
/-- One step more. -/
theorem KB.ostep {R R' : Nat × Nat → Prop} {w w1 w2 : World} {own own1 own2 : BOwn} {D : Nat → Prop} (h : KB R w own w1 own1 D) (k : OStep R' w1 own1 w2 own2) (hR : ∀ r, R' r → R r ∧ r.1 ≤ 1) : KB R w own w2 own2 D := by
  refine ⟨h.chg.trans k.chg (fun x ⟨r, e, hr⟩ => ?_), fun g r e => k.keep g r (h.keep g r e), fun g r e => ?_, fun g e => ?_⟩
  · obtain ⟨hr1, hr2⟩ := hR r hr
    rcases h.new x r e with e2 | e2 | ⟨e2, _⟩
    · exact .inl ⟨r, e2, hr1⟩
    · exact .inr e2
    · omega
  · rcases k.new g r e with e2 | ⟨e2, _⟩
    · exact h.new g r e2
    · exact .inr (.inl (Nat.le_trans h.chg.size e2))
  · obtain ⟨r, h1, h2⟩ := h.has g e
    exact ⟨r, k.keep g r h1, h2⟩
theorem KB.one {w w1 w2 : World} {own own1 own2 : BOwn} {D : Nat → Prop} {v : Value} {ro n : Nat} {R R' : Nat × Nat → Prop} (h : KB R w own w1 own1 D) (k : KStep R' v w1 own1 w2 own2) (hm : Mine own2 (ro, n) v) (hro : 2 ≤ ro) (hR : ∀ r, R' r → R r ∧ r.1 ≤ 1) : KB R w own w2 own2 (fun g => D g ∨ v.ownBlock = some g) := by
  refine ⟨h.chg.trans k.chg (fun x ⟨r, e, hr⟩ => ?_), fun g r e => k.keep g r (h.keep g r e), fun g r e => ?_, fun g e => ?_⟩
  · obtain ⟨hr1, hr2⟩ := hR r hr
    rcases h.new x r e with e2 | e2 | ⟨e2, _⟩
    · exact .inl ⟨r, e2, hr1⟩
    · exact .inr e2
    · omega
  · rcases k.new g r e with e2 | e2 | e2
    · rcases h.new g r e2 with e3 | e3 | ⟨e3, e4⟩
      · exact .inl e3
      · exact .inr (.inl e3)
      · exact .inr (.inr ⟨e3, .inl e4⟩)
    · exact .inr (.inl (Nat.le_trans h.chg.size e2))
    · have := hm g e2
      rw [e] at this; cases this
      exact .inr (.inr ⟨hro, .inr e2⟩)
  · rcases e with e | e
    · obtain ⟨r, h1, h2⟩ := h.has g e
      exact ⟨r, k.keep g r h1, h2⟩
    · exact ⟨(ro, n), hm g e, hro⟩
/-- A role for a block of no role. -/
theorem KB.give {R : Nat × Nat → Prop} {w w1 : World} {own own1 : BOwn} {D : Nat → Prop} {v : Value} {ro n : Nat} (h : KB R w own w1 own1 D) (hu : ∀ g, v.ownBlock = some g → own1 g = none) (hro : 2 ≤ ro) : KB R w own w1 (giveV own1 v (ro, n)) (fun g => D g ∨ v.ownBlock = some g) := by
  refine ⟨h.chg, fun g r e => giveV_keep hu g r (h.keep g r e), fun g r e => ?_, fun g e => ?_⟩
  · by_cases hv : v.ownBlock = some g
    · have := giveV_mine own1 v (ro, n) g hv
      rw [e] at this; cases this
      exact .inr (.inr ⟨hro, .inr hv⟩)
    · rcases giveV_new e with e2 | e2
      · exact (h.new g r e2).imp id (fun k => k.imp id (fun k => ⟨k.1, .inl k.2⟩))
      · exact (hv e2).elim
  · by_cases hv : v.ownBlock = some g
    · exact ⟨_, giveV_mine own1 v (ro, n) g hv, hro⟩
    · rcases e with e | e
      · obtain ⟨r, h1, h2⟩ := h.has g e
        exact ⟨r, giveV_keep hu g r h1, h2⟩
      · exact (hv e).elim
/-- A role for all blocks of a span. -/
def giveR (own : BOwn) (lo hi : Nat) : BOwn := fun g => if own g = none ∧ lo ≤ g ∧ g < hi then some (99, 0) else own g
theorem giveR_keep {own : BOwn} {lo hi : Nat} : ∀ g r, own g = some r → giveR own lo hi g = some r := fun g r e => by
  unfold giveR; rw [if_neg (fun h => by rw [h.1] at e; cases e)]; exact e
theorem giveR_new {own : BOwn} {lo hi g : Nat} {r : Nat × Nat} (h : giveR own lo hi g = some r) : own g = some r ∨ (lo ≤ g ∧ g < hi ∧ r = (99, 0)) := by
  unfold giveR at h
  split at h
  · rename_i e; cases h; exact .inr ⟨e.2.1, e.2.2, rfl⟩
  · exact .inl h
theorem giveR_has {own : BOwn} {lo hi g : Nat} (h : own g = none) (h1 : lo ≤ g) (h2 : g < hi) : giveR own lo hi g = some (99, 0) := by unfold giveR; rw [if_pos ⟨h, h1, h2⟩]
theorem KB.span {R : Nat × Nat → Prop} {w w1 : World} {own own1 : BOwn} {D : Nat → Prop} {lo hi : Nat} (h : KB R w own w1 own1 D) (hl : w.heap.size ≤ lo) : KB R w own w1 (giveR own1 lo hi) D :=
  ⟨h.chg, fun g r e => giveR_keep g r (h.keep g r e), fun g r e => by
    rcases giveR_new e with e2 | ⟨e2, _, _⟩
    · exact h.new g r e2
    · exact .inr (.inl (Nat.le_trans hl e2)), fun g e => by obtain ⟨r, h1, h2⟩ := h.has g e; exact ⟨r, giveR_keep g r h1, h2⟩⟩
/-- What is nobody's stays. -/
theorem KB.free {R : Nat × Nat → Prop} {w w' : World} {own own' : BOwn} {D : Nat → Prop} (h : KB R w own w' own' D) {g : Nat} (hg : own g = none) (hl : g < w.heap.size) (hd : ¬ D g) : own' g = none := by
  cases e : own' g with
  | none => rfl
  | some r =>
    rcases h.new g r e with e2 | e2 | e2
    · rw [hg] at e2; cases e2
    · omega
    · exact (hd e2.2).elim
theorem KB.row {R : Nat × Nat → Prop} {w w' : World} {own own' : BOwn} {D : Nat → Prop} (h : KB R w own w' own' D) {base : Nat} {e : TypeId} {sz n : Nat} {v : Value} {xs : List Value} (hr : w.ownsRow base e sz v n xs) (hv : ∀ g, v.ownBlock = some g → own g = none) : w'.ownsRow base e sz v n xs :=
  ownsRow_chg hr h.chg (fun g eg ⟨r, e2, _⟩ => by rw [hv g eg] at e2; cases e2)
end Go.Proofs.YtckioocahmbhkaaGreatDoor
