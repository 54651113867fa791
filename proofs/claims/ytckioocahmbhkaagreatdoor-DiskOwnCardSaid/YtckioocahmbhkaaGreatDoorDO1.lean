/- The disks, and the book of what they handed out: the state of the law DiskOwn. -/
import Derived.Test.YtckioocahmbhkaaGreatDoorBWc
import Derived.Test.YtckioocahmbhkaaGreatDoorDP
namespace Go.Proofs.YtckioocahmbhkaaGreatDoor
open Go Go.RowKit Go.Maps

/-- The book, of at most nb lists of bytes and nw lists of writes. -/
def BookS (w : World) (own : BOwn) (bb nb nw : Nat) : Prop :=
  ∃ F rvb wvb xsb wsb ccb rv wv xs ws cc, Book2 w own bb F rvb wvb xsb wsb ccb rv wv xs ws cc ∧ ccb.length ≤ nb ∧ cc.length ≤ nw
theorem BookS.lt {w : World} {own : BOwn} {bb nb nw : Nat} (h : BookS w own bb nb nw) : ∀ g r, own g = some r → g < w.heap.size := by
  obtain ⟨_, _, _, _, _, _, _, _, _, _, _, hB, _⟩ := h; exact hB.book.lt
theorem BookS.chg {w w' : World} {own : BOwn} {bb nb nw : Nat} {S : Nat → Prop} (h : BookS w own bb nb nw) (hc : Chg S w w') (hs : ∀ g r, own g = some r → ¬ S g) : BookS w' own bb nb nw := by
  obtain ⟨F, rvb, wvb, xsb, wsb, ccb, rv, wv, xs, ws, cc, hB, h1, h2⟩ := h
  obtain ⟨cs, c1, c2, c3⟩ := hB.book.cells
  exact ⟨F, rvb, wvb, xsb, wsb, ccb, rv, wv, xs, ws, cc, { hB with book := ⟨⟨cs, hc.get c1 (hs _ _ hB.book.role), c2, c3⟩, hB.book.role, fun g r e => Nat.lt_of_lt_of_le (hB.book.lt g r e) hc.size⟩, keptb := hB.keptb.chg hc hs, kept := hB.kept.chg hc (fun g r e _ => hs g r e) }, h1, h2⟩
theorem BookS.mono {w : World} {own : BOwn} {bb nb nw nb' nw' : Nat} (h : BookS w own bb nb nw) (h1 : nb ≤ nb') (h2 : nw ≤ nw') : BookS w own bb nb' nw' := by
  obtain ⟨F, rvb, wvb, xsb, wsb, ccb, rv, wv, xs, ws, cc, hB, a1, a2⟩ := h
  exact ⟨F, rvb, wvb, xsb, wsb, ccb, rv, wv, xs, ws, cc, hB, by omega, by omega⟩

def ptr (b : Nat) : Value := .pointer (some ⟨b, 0, none⟩)
/-- Nobody's block. -/
def Free (own : BOwn) (os : Nat → Own) (rv : Value) (g : Nat) : Prop := own g = none ∧ (∀ d, ¬ (os d).blocks g) ∧ rv.ownBlock ≠ some g
/-- What is nobody's stays, but for D. -/
structure Keeps (D : Nat → Prop) (w : World) (own : BOwn) (os : Nat → Own) (rv : Value) (w' : World) (own' : BOwn) (os' : Nat → Own) (rv' : Value) : Prop where
  size : w.heap.size ≤ w'.heap.size
  free : ∀ g, g < w.heap.size → Free own os rv g → ¬ D g → Free own' os' rv' g ∧ w'.heap[g]? = w.heap[g]?
theorem Keeps.refl (D : Nat → Prop) (w : World) (own : BOwn) (os : Nat → Own) (rv : Value) : Keeps D w own os rv w own os rv := ⟨Nat.le_refl _, fun _ _ h _ => ⟨h, rfl⟩⟩
theorem Keeps.trans {D : Nat → Prop} {w1 w2 w3 : World} {o1 o2 o3 : BOwn} {s1 s2 s3 : Nat → Own} {r1 r2 r3 : Value} (h : Keeps D w1 o1 s1 r1 w2 o2 s2 r2) (k : Keeps D w2 o2 s2 r2 w3 o3 s3 r3) : Keeps D w1 o1 s1 r1 w3 o3 s3 r3 :=
  ⟨Nat.le_trans h.size k.size, fun g hg hf hd => by
    obtain ⟨a1, a2⟩ := h.free g hg hf hd
    obtain ⟨b1, b2⟩ := k.free g (Nat.lt_of_lt_of_le hg h.size) a1 hd
    exact ⟨b1, b2.trans a2⟩⟩
theorem Keeps.mono {D D' : Nat → Prop} {w w' : World} {own own' : BOwn} {os os' : Nat → Own} {rv rv' : Value} (h : Keeps D w own os rv w' own' os' rv') (hd : ∀ g, D g → D' g) : Keeps D' w own os rv w' own' os' rv' :=
  ⟨h.size, fun g h1 h2 h3 => h.free g h1 h2 (fun e => h3 (hd g e))⟩
theorem row_same {w w' : World} {base : Nat} {e : TypeId} {sz n : Nat} {v : Value} {xs : List Value} (h : w.ownsRow base e sz v n xs) (hb : ∀ g, v.ownBlock = some g → w'.heap[g]? = w.heap[g]?) : w'.ownsRow base e sz v n xs := by
  refine ⟨h.1, ?_⟩
  rcases h.2 with h2 | ⟨g, cap, cur, rfl, hg, hh, r⟩
  · exact .inl h2
  · exact .inr ⟨g, cap, cur, rfl, hg, (hb g rfl).trans hh, r⟩

def updF {α : Type} (f : Nat → α) (d : Nat) (x : α) : Nat → α := fun i => if i = d then x else f i
theorem updF_same {α : Type} (f : Nat → α) (d : Nat) (x : α) : updF f d x d = x := by simp [updF]
theorem updF_other {α : Type} {f : Nat → α} {d i : Nat} {x : α} (h : i ≠ d) : updF f d x i = f i := by simp [updF, h]

structure Many (w0 w : World) (own : BOwn) (bb : Nat) (rv : Value) (bs : List Nat) (os : Nat → Own) (Ds : Nat → DS) (k nb nw : Nat) : Prop where
  book : BookS w own bb nb nw
  row : w.ownsRow 0 41 1 rv bs.length (bs.map ptr)
  disk : ∀ d b, bs[d]? = some b → DiskAt w (os d) 0 b (Ds d) ∧ PInv (Ds d) k
  lt : ∀ d g, (os d).blocks g → g < w.heap.size
  beyond : ∀ d, bs.length ≤ d → ∀ g, ¬ (os d).blocks g
  apart : ∀ d d' g, d ≠ d' → (os d).blocks g → ¬ (os d').blocks g
  offr : ∀ g, rv.ownBlock = some g → own g = none ∧ ∀ d, ¬ (os d).blocks g
  offb : ∀ d g, (os d).blocks g → own g = none
  far1 : ∀ g r, own g = some r → w0.heap.size ≤ g
  far2 : ∀ d g, (os d).blocks g → w0.heap.size ≤ g
  far3 : ∀ g, rv.ownBlock = some g → w0.heap.size ≤ g
  chg : Chg (fun _ => False) w0 w

theorem Many.free_new {w0 w : World} {own : BOwn} {bb : Nat} {rv : Value} {bs : List Nat} {os : Nat → Own} {Ds : Nat → DS} {k nb nw : Nat} (h : Many w0 w own bb rv bs os Ds k nb nw) {g : Nat} (hg : w.heap.size ≤ g) : Free own os rv g :=
  ⟨by
    cases e : own g with
    | none => rfl
    | some r => have := h.book.lt g r e; omega, fun d e => by have := h.lt d g e; omega, fun e => by have := brow_lt h.row g e; omega⟩
/-- Nothing of it turns. -/
theorem Many.chg0 {w0 w w' : World} {own : BOwn} {bb : Nat} {rv : Value} {bs : List Nat} {os : Nat → Own} {Ds : Nat → DS} {k nb nw : Nat} (h : Many w0 w own bb rv bs os Ds k nb nw) (hc : Chg (fun _ => False) w w') :
    Many w0 w' own bb rv bs os Ds k nb nw ∧ Keeps (fun _ => False) w own os rv w' own os rv :=
  ⟨{ h with book := h.book.chg hc (fun _ _ _ f => f), row := ownsRow_chg h.row hc (fun _ _ f => f), disk := fun d b hd => ⟨(h.disk d b hd).1.chg hc (fun _ _ f => f), (h.disk d b hd).2⟩, lt := fun d g e => Nat.lt_of_lt_of_le (h.lt d g e) hc.size, chg := h.chg.trans hc (fun _ f => f.elim) },
   hc.size, fun g hg hf _ => ⟨hf, hc.block g hg (fun f => f)⟩⟩
theorem Many.mono {w0 w : World} {own : BOwn} {bb : Nat} {rv : Value} {bs : List Nat} {os : Nat → Own} {Ds : Nat → DS} {k nb nw k' nb' nw' : Nat} (h : Many w0 w own bb rv bs os Ds k nb nw) (h1 : k ≤ k') (h2 : nb ≤ nb') (h3 : nw ≤ nw') : Many w0 w own bb rv bs os Ds k' nb' nw' :=
  { h with book := h.book.mono h2 h3, disk := fun d b hd => ⟨(h.disk d b hd).1, (by
      have hP := (h.disk d b hd).2
      exact ⟨hP.cap, hP.page, hP.data, fun q hq => by have := hP.no q hq; omega, by have := hP.len; omega, by have := hP.wr; omega, by have := hP.pn; omega⟩)⟩ }
/-- What is no disk's and not the book's turns. -/
theorem Many.other {w0 w w' : World} {own : BOwn} {bb : Nat} {rv : Value} {bs : List Nat} {os : Nat → Own} {Ds : Nat → DS} {k nb nw : Nat} {S : Nat → Prop} (h : Many w0 w own bb rv bs os Ds k nb nw) (hc : Chg S w w') (hs : ∀ g, S g → w.heap.size ≤ g ∨ (Free own os rv g ∧ w0.heap.size ≤ g)) :
    Many w0 w' own bb rv bs os Ds k nb nw ∧ Keeps S w own os rv w' own os rv := by
  have n1 : ∀ g r, own g = some r → ¬ S g := fun g r e f => by
    rcases hs g f with e2 | ⟨e2, _⟩
    · have := h.book.lt g r e; omega
    · rw [e2.1] at e; cases e
  have n2 : ∀ g, rv.ownBlock = some g → ¬ S g := fun g e f => by
    rcases hs g f with e2 | ⟨e2, _⟩
    · have := brow_lt h.row g e; omega
    · exact e2.2.2 e
  have n3 : ∀ d g, (os d).blocks g → ¬ S g := fun d g e f => by
    rcases hs g f with e2 | ⟨e2, _⟩
    · have := h.lt d g e; omega
    · exact e2.2.1 d e
  refine ⟨{ h with book := h.book.chg hc n1, row := ownsRow_chg h.row hc n2, disk := fun d b hd => ⟨(h.disk d b hd).1.chg hc (n3 d), (h.disk d b hd).2⟩, lt := fun d g e => Nat.lt_of_lt_of_le (h.lt d g e) hc.size, chg := h.chg.trans hc (fun x e => (hs x e).elim (fun e => .inr (Nat.le_trans h.chg.size e)) (fun e => .inr e.2)) }, hc.size, fun g hg hf hd => ⟨hf, hc.block g hg hd⟩⟩

/-- A disk's step. -/
theorem Many.step {w0 w w' : World} {own : BOwn} {bb : Nat} {rv : Value} {bs : List Nat} {os : Nat → Own} {Ds : Nat → DS} {k nb nw : Nat} (h : Many w0 w own bb rv bs os Ds k nb nw) {d b : Nat} (hd : bs[d]? = some b) {o' : Own} {D' : DS} (hst : Step w (os d) w' o') (hD : DiskAt w' o' 0 b D') (hP : PInv D' (k + 1)) :
    Many w0 w' own bb rv bs (updF os d o') (updF Ds d D') (k + 1) nb nw ∧ Keeps (fun _ => False) w own os rv w' own (updF os d o') rv := by
  have hdl := (List.getElem?_eq_some_iff.1 hd).1
  have hsz := hst.chg.size
  have key : ∀ i g, (updF os d o' i).blocks g → (os i).blocks g ∨ (i = d ∧ w.heap.size ≤ g) := fun i g e => by
    by_cases hi : i = d
    · subst hi; rw [updF_same] at e
      exact (hst.new g e).imp id (fun e => ⟨rfl, e⟩)
    · rw [updF_other hi] at e; exact .inl e
  have hltd : ∀ g, o'.blocks g → g < w'.heap.size := fun g e => by
    obtain ⟨_, _, _, _, hF⟩ := hD
    exact hF.lt g e
  refine ⟨⟨h.book.chg hst.chg (fun g r e f => by have := h.offb d g f; rw [this] at e; cases e), ownsRow_chg h.row hst.chg (fun g e f => (h.offr g e).2 d f), fun i c hi => ?_, fun i g e => ?_, fun i hi g e => ?_, fun i j g hij e1 e2 => ?_, fun g e => ⟨(h.offr g e).1, fun i f => ?_⟩, fun i g e => ?_, h.far1, fun i g e => ?_, h.far3, h.chg.trans hst.chg (fun x e => .inr (h.far2 d x e))⟩, hsz, fun g hg hf _ => ⟨⟨hf.1, fun i e => ?_, hf.2.2⟩, hst.chg.block g hg (hf.2.1 d)⟩⟩
  · by_cases e : i = d
    · subst e
      rw [hd] at hi; cases hi
      rw [updF_same, updF_same]; exact ⟨hD, hP⟩
    · rw [updF_other e, updF_other e]
      obtain ⟨h1, h2⟩ := h.disk i c hi
      exact ⟨h1.chg hst.chg (fun g hg hg2 => h.apart i d g e hg hg2), h2.more⟩
  · by_cases hi : i = d
    · subst hi; rw [updF_same] at e; exact hltd g e
    · rw [updF_other hi] at e; exact Nat.lt_of_lt_of_le (h.lt i g e) hsz
  · have hne : i ≠ d := by omega
    rw [updF_other hne] at e
    exact h.beyond i hi g e
  · rcases key i g e1 with a | ⟨rfl, a⟩
    · rcases key j g e2 with c | ⟨rfl, c⟩
      · exact h.apart i j g hij a c
      · have := h.lt i g a; omega
    · rcases key j g e2 with c | ⟨rfl, c⟩
      · have := h.lt j g c; omega
      · exact hij rfl
  · rcases key i g f with a | ⟨_, a⟩
    · exact (h.offr g e).2 i a
    · have := brow_lt h.row g e; omega
  · rcases key i g e with a | ⟨_, a⟩
    · exact h.offb i g a
    · exact (h.free_new a).1
  · rcases key i g e with a | ⟨_, a⟩
    · exact h.far2 i g a
    · exact Nat.le_trans h.chg.size a
  · rcases key i g e with a | ⟨_, a⟩
    · exact hf.2.1 i a
    · omega

/-! ### the calls -/
variable {w0 w : World} {own : BOwn} {bb : Nat} {rv : Value} {bs : List Nat} {os : Nat → Own} {Ds : Nat → DS} {k nb nw : Nat}

theorem Many.write (h : Many w0 w own bb rv bs os Ds k nb nw) (hk : k ≤ 900) {d b : Nat} (hd : bs[d]? = some b) (i : Int) {g cap : Nat} {p : List UInt8} (hp : p.length = 4096) (hr : w.ownsRow 0 5 1 (.slice (some ⟨g, 0, none⟩) 4096 cap) 4096 (bVs p)) (hg : ∀ d, ¬ (os d).blocks g) :
    Calls Tryz.prog 6 #[.pointer (some ⟨b, 0, none⟩), .int .i64 i, .slice (some ⟨g, 0, none⟩) 4096 cap] w fun e w' => ∃ c os' Ds', e = .returned (.int .i64 c) ∧ Many w0 w' own bb rv bs os' Ds' (k + 1) nb nw ∧ Keeps (fun _ => False) w own os rv w' own os' rv := by
  obtain ⟨hD, hP⟩ := h.disk d b hd
  obtain ⟨s1, s2⟩ := row_sees hr
  have := write_any w (os d) b (Ds d) hD (hP.ok (by omega)) i (some ⟨g, 0, none⟩) cap p (fun _ => ⟨g, 0, rfl, hg d, s2⟩) (by omega) hP.cap (by have := hP.wr; omega) (by have := hP.pn; omega)
  rw [hp] at this
  refine this.mono ?_
  rintro e w' ⟨rfl, own', h1, h2⟩
  exact ⟨_, _, _, rfl, h.step hd h2 h1 (hP.write i p)⟩
theorem Many.sync (h : Many w0 w own bb rv bs os Ds k nb nw) (hk : k ≤ 900) {d b : Nat} (hd : bs[d]? = some b) :
    Calls Tryz.prog 8 #[.pointer (some ⟨b, 0, none⟩)] w fun e w' => ∃ c os' Ds', e = .returned (.int .i64 c) ∧ Many w0 w' own bb rv bs os' Ds' (k + 1) nb nw ∧ Keeps (fun _ => False) w own os rv w' own os' rv := by
  obtain ⟨hD, hP⟩ := h.disk d b hd
  refine (sync_any w (os d) b (Ds d) hD (hP.ok (by omega))).mono ?_
  rintro e w' ⟨rfl, own', h1, h2⟩
  exact ⟨_, _, _, rfl, h.step hd h2 h1 (hP.sync (by omega))⟩
/-- What was handed out: in new memory, nobody's. -/
structure Hand (w0 w : World) (own : BOwn) (os : Nat → Own) (rv : Value) (v : Value) (p : List UInt8) : Prop where
  row : w.ownsRow 0 5 1 v p.length (bVs p)
  free : ∀ g, v.ownBlock = some g → Free own os rv g ∧ w0.heap.size ≤ g
theorem Hand.keep {w' : World} {own' : BOwn} {os' : Nat → Own} {rv' v : Value} {p : List UInt8} {D : Nat → Prop} (h : Hand w0 w own os rv v p) (hk : Keeps D w own os rv w' own' os' rv') (hd : ∀ g, v.ownBlock = some g → ¬ D g) : Hand w0 w' own' os' rv' v p :=
  ⟨row_same h.row (fun g e => (hk.free g (brow_lt h.row g e) (h.free g e).1 (hd g e)).2), fun g e => ⟨(hk.free g (brow_lt h.row g e) (h.free g e).1 (hd g e)).1, (h.free g e).2⟩⟩
theorem Hand.shape {v : Value} {p : List UInt8} (h : Hand w0 w own os rv v p) : ∃ a cap, v = .slice a p.length cap := by
  obtain ⟨a, cap, e, _⟩ := ownsRow_slice h.row
  exact ⟨a, cap, e⟩
theorem upd_free {o' : Own} {d : Nat} {g : Nat} (ho : ∀ g, o'.blocks g → (os d).blocks g) (hf : Free own os rv g) : Free own (updF os d o') rv g :=
  ⟨hf.1, fun i e => by
    by_cases hi : i = d
    · subst hi; rw [updF_same] at e; exact hf.2.1 _ (ho g e)
    · rw [updF_other hi] at e; exact hf.2.1 i e, hf.2.2⟩
theorem Many.read (h : Many w0 w own bb rv bs os Ds k nb nw) (hk : k ≤ 900) {d b : Nat} (hd : bs[d]? = some b) (i : Int) :
    Calls Tryz.prog 9 #[.pointer (some ⟨b, 0, none⟩), .int .i64 i] w fun e w' => ∃ v c p os' Ds', e = .returned (.tuple #[v, .int .i64 c]) ∧ p.length ≤ 4096 ∧ Hand w0 w' own os' rv v p ∧ Many w0 w' own bb rv bs os' Ds' (k + 1) nb nw ∧ Keeps (fun _ => False) w own os rv w' own os' rv ∧ (∀ g, v.ownBlock = some g → w.heap.size ≤ g) := by
  obtain ⟨hD, hP⟩ := h.disk d b hd
  have hstr := hD.str
  have hok := hP.ok (k := k) (by omega)
  refine (read_any w (os d) b (Ds d) hD hok (by have := hP.pages; omega) i).mono ?_
  rintro e w' ⟨v, rfl, h1, h2, h3⟩
  obtain ⟨hM, hK⟩ := h.step hd (Step.of_b hstr h3) h2 (hP.read i)
  refine ⟨v, _, _, _, _, rfl, ?_, ⟨h1.1, fun g e => ⟨upd_free (fun _ e => e) (h.free_new (h1.2 g e)), Nat.le_trans h.chg.size (h1.2 g e)⟩⟩, hM, hK, h1.2⟩
  unfold DS.read
  split
  · simp
  split
  · simp
  · show (DS.page (Ds d) i.toNat).length ≤ 4096
    unfold DS.page
    split
    · rename_i p e
      obtain ⟨q, hq1, _, hq2⟩ := lastOf_some e
      rw [← hq2]; exact Nat.le_of_eq (hP.data q hq1)
    · rw [List.getD_eq_getElem?_getD]
      cases e : (Ds d).lasting[i.toNat]? with
      | none => simp [zpage_length]
      | some p => exact Nat.le_of_eq (hP.page p (List.mem_of_getElem? e))
theorem Many.durable (h : Many w0 w own bb rv bs os Ds k nb nw) (hk : k ≤ 900) {d b : Nat} (hd : bs[d]? = some b) {fl : List UInt8} (hfl : (Ds d).lasting.flatten = fl) :
    Calls Tryz.prog 13 #[.pointer (some ⟨b, 0, none⟩)] w fun e w' => ∃ a cap, e = .returned (.slice a fl.length cap) ∧ fl.length ≤ 16777216 ∧ Hand w0 w' own os rv (.slice a fl.length cap) fl ∧ Many w0 w' own bb rv bs os Ds k nb nw ∧ Keeps (fun _ => False) w own os rv w' own os rv ∧ (∀ g, (Value.slice a fl.length cap).ownBlock = some g → w.heap.size ≤ g) := by
  obtain ⟨hD, hP⟩ := h.disk d b hd
  have hstr := hD.str
  have hok := hP.ok (k := k) (by omega)
  have := durable_any w (os d) b (Ds d) hD hok
  rw [hfl] at this
  refine this.mono ?_
  rintro e w' ⟨a, cap, rfl, h1, h2, h3⟩
  have hub : ∀ g, (os d).blocks g → ¬ (fun x => x = b) g ∨ True := fun _ _ => .inr trivial
  have e1 : updF os d (os d) = os := by funext i; unfold updF; split <;> simp_all
  have e2 : updF Ds d (Ds d) = Ds := by funext i; unfold updF; split <;> simp_all
  have hst := Step.of_b hstr h3
  have hb : (os d).blocks b := Own.blocks_of hstr
  have hM : Many w0 w' own bb rv bs os Ds k nb nw ∧ Keeps (fun _ => False) w own os rv w' own os rv := by
    refine ⟨{ h with book := h.book.chg h3 (fun g r e f => by subst f; have := h.offb d _ hb; rw [this] at e; cases e), row := ownsRow_chg h.row h3 (fun g e f => by subst f; exact (h.offr _ e).2 d hb), disk := fun i c hi => ?_, lt := fun i g e => Nat.lt_of_lt_of_le (h.lt i g e) h3.size, chg := h.chg.trans h3 (fun x e => .inr (by subst e; exact h.far2 d _ hb)) }, h3.size, fun g hg hf _ => ⟨hf, h3.block g hg (fun f => by subst f; exact hf.2.1 d hb)⟩⟩
    by_cases e : i = d
    · subst e
      rw [hd] at hi; cases hi
      exact ⟨h2, hP⟩
    · obtain ⟨k1, k2⟩ := h.disk i c hi
      exact ⟨k1.chg h3 (fun g hg f => by subst f; exact h.apart i d _ e hg hb), k2⟩
  refine ⟨a, cap, rfl, ?_, ⟨h1.1, fun g e => ⟨h.free_new (h1.2 g e), Nat.le_trans h.chg.size (h1.2 g e)⟩⟩, hM.1, hM.2, h1.2⟩
  rw [← hfl, flatP_length _ hP.page]
  have := hP.len
  omega
end Go.Proofs.YtckioocahmbhkaaGreatDoor
