/- The disks, and the book of what they handed out: keeping, and the book's end. -/
import Derived.Test.YtckioocahmbhkaaGreatDoorDO1
namespace Go.Proofs.YtckioocahmbhkaaGreatDoor
open Go Go.RowKit Go.Maps
variable {w0 w : World} {own : BOwn} {bb : Nat} {rv : Value} {bs : List Nat} {os : Nat → Own} {Ds : Nat → DS} {k nb nw : Nat}

/-- The book works. -/
theorem Many.kept {w' : World} {own' : BOwn} {nb' nw' : Nat} {D : Nat → Prop} (h : Many w0 w own bb rv bs os Ds k nb nw) (hB : BookS w' own' bb nb' nw') (hc : Chg (fun g => ∃ r, own g = some r) w w') (hk : ∀ g r, own g = some r → own' g = some r)
    (hn : ∀ g r, own' g = some r → own g = some r ∨ w.heap.size ≤ g ∨ D g) (hD : ∀ g, D g → Free own os rv g ∧ w0.heap.size ≤ g) : Many w0 w' own' bb rv bs os Ds k nb' nw' ∧ Keeps D w own os rv w' own' os rv := by
  have off : ∀ g, (∀ r, own g ≠ some r) → ¬ (∃ r, own g = some r) := fun g hg ⟨r, e⟩ => hg r e
  have nn : ∀ g, g < w.heap.size → own g = none → ¬ D g → own' g = none := fun g hg e hd => by
    cases e2 : own' g with
    | none => rfl
    | some r =>
      rcases hn g r e2 with e3 | e3 | e3
      · rw [e] at e3; cases e3
      · omega
      · exact (hd e3).elim
  have hb : ∀ d g, (os d).blocks g → own g = none ∧ ¬ D g := fun d g e => ⟨h.offb d g e, fun f => (hD g f).1.2.1 d e⟩
  refine ⟨⟨hB, ownsRow_chg h.row hc (fun g e ⟨r, f⟩ => by rw [(h.offr g e).1] at f; cases f), fun d b hd => ⟨(h.disk d b hd).1.chg hc (fun g hg ⟨r, f⟩ => by rw [(hb d g hg).1] at f; cases f), (h.disk d b hd).2⟩, fun d g e => Nat.lt_of_lt_of_le (h.lt d g e) hc.size, h.beyond, h.apart, fun g e => ⟨nn g (brow_lt h.row g e) (h.offr g e).1 (fun f => (hD g f).1.2.2 e), (h.offr g e).2⟩, fun d g e => nn g (h.lt d g e) (hb d g e).1 (hb d g e).2, fun g r e => ?_, h.far2, h.far3, h.chg.trans hc (fun x ⟨r, e⟩ => .inr (h.far1 x r e))⟩, hc.size, fun g hg hf hd => ⟨⟨nn g hg hf.1 hd, hf.2.1, hf.2.2⟩, hc.block g hg (fun ⟨r, e⟩ => by rw [hf.1] at e; cases e)⟩⟩
  rcases hn g r e with e | e | e
  · exact h.far1 g r e
  · exact Nat.le_trans h.chg.size e
  · exact (hD g e).2

theorem Many.keepB (h : Many w0 w own bb rv bs os Ds k nb nw) (hnb : nb < 800000) {a : Option Addr} {cap : Nat} {p : List UInt8} (hl : p.length ≤ 16777216) (hh : Hand w0 w own os rv (.slice a p.length cap) p) :
    Calls Tryz.prog 10 #[.pointer (some ⟨bb, 0, none⟩), .slice a p.length cap] w fun e w' => ∃ own', e = .returned (.tuple #[]) ∧ Many w0 w' own' bb rv bs os Ds k (nb + 1) nw ∧ Keeps (fun g => (Value.slice a p.length cap).ownBlock = some g) w own os rv w' own' os rv := by
  obtain ⟨F, rvb, wvb, xsb, wsb, ccb, rvw, wvw, xs, ws, cc, hB, a1, a2⟩ := h.book
  refine (byteskeep_any w own bb F hB.book rvb wvb xsb wsb ccb hB.f2 hB.f3 hB.keptb (by omega) a cap p hl hh.row (fun g e => (hh.free g e).1.1)).mono ?_
  rintro e w' ⟨rfl, own', rv', wv', u, hb, hk, hS⟩
  have hn : ∀ {i : Nat}, i ≠ 2 → i ≠ 3 → setF (setF F 2 rv') 3 wv' i = F i := fun h2 h3 => by rw [setF_other h3, setF_other h2]
  refine ⟨own', rfl, h.kept (D := fun g => (Value.slice a p.length cap).ownBlock = some g) ⟨_, rv', wv', _, _, _, rvw, wvw, xs, ws, cc, ⟨hb, fun i h1 h2 h3 h4 h5 h6 => by rw [hn h3 h4]; exact hB.nils i h1 h2 h3 h4 h5 h6, by rw [hn (by decide) (by decide)]; exact hB.f0, by rw [hn (by decide) (by decide)]; exact hB.f1, by rw [setF_other (by decide), setF_same], setF_same _ _ _, by rw [hn (by decide) (by decide)]; exact hB.f17, by rw [hn (by decide) (by decide)]; exact hB.f18, hk, ?_, ?_, hB.len, ?_, hB.sz⟩, ?_, a2⟩ (hS.chg.mono (fun g ⟨r, e, _⟩ => ⟨r, e⟩)) hS.keep hS.new (fun g e => hh.free g e)⟩
  · exact (hB.kept.chg hS.chg (fun g r e hr => fun ⟨r', e2, h2⟩ => by
      rw [e] at e2; cases e2
      rcases h2 with h2 | h2 | h2 <;> rw [h2] at hr <;> simp at hr)).more hS.keep
  · rw [List.length_append]; simp only [List.length_cons, List.length_nil]; omega
  · intro x hx
    rcases List.mem_append.1 hx with hx | hx
    · exact hB.szb x hx
    · simp only [List.mem_cons, List.not_mem_nil, or_false] at hx; subst hx; omega
  · rw [List.length_append]; simp only [List.length_cons, List.length_nil]; omega

/-- Writes that were handed out. -/
structure HandW (w0 w : World) (own : BOwn) (os : Nat → Own) (rv : Value) (v : Value) (vs : List Value) (qs : List (Nat × List UInt8)) : Prop where
  fresh : FreshW w own v vs qs
  far : ∀ g, (Bls vs qs.length g ∨ v.ownBlock = some g) → Free own os rv g ∧ w0.heap.size ≤ g
theorem Many.pending (h : Many w0 w own bb rv bs os Ds k nb nw) (hk : k ≤ 900) {d b : Nat} (hd : bs[d]? = some b) :
    Calls Tryz.prog 12 #[.pointer (some ⟨b, 0, none⟩)] w fun e w' => ∃ a cap vs qs, e = .returned (.slice a qs.length cap) ∧ qs.length ≤ k ∧ (∀ q ∈ qs, q.2.length = 4096) ∧ HandW w0 w' own os rv (.slice a qs.length cap) vs qs ∧ Many w0 w' own bb rv bs os Ds k nb nw ∧ Keeps (fun _ => False) w own os rv w' own os rv := by
  obtain ⟨hD, hP⟩ := h.disk d b hd
  have hstr := hD.str
  have hok := hP.ok (k := k) (by omega)
  refine (pending_any w (os d) b (Ds d) hD hok (by have := hP.pn; omega)).mono ?_
  rintro e w' ⟨a, cap, rho, rfl, ⟨vs, v1, v2, v3, v4, v5⟩, h2, h3⟩
  have hb : (os d).blocks b := Own.blocks_of hstr
  have hM : Many w0 w' own bb rv bs os Ds k nb nw ∧ Keeps (fun _ => False) w own os rv w' own os rv := by
    refine ⟨{ h with book := h.book.chg h3 (fun g r e f => by subst f; have := h.offb d _ hb; rw [this] at e; cases e), row := ownsRow_chg h.row h3 (fun g e f => by subst f; exact (h.offr _ e).2 d hb), disk := fun i c hi => ?_, lt := fun i g e => Nat.lt_of_lt_of_le (h.lt i g e) h3.size, chg := h.chg.trans h3 (fun x e => .inr (by subst e; exact h.far2 d _ hb)) }, h3.size, fun g hg hf _ => ⟨hf, h3.block g hg (fun f => by subst f; exact hf.2.1 d hb)⟩⟩
    by_cases e : i = d
    · subst e
      rw [hd] at hi; cases hi
      exact ⟨h2, hP⟩
    · obtain ⟨k1, k2⟩ := h.disk i c hi
      exact ⟨k1.chg h3 (fun g hg f => by subst f; exact h.apart i d _ e hg hb), k2⟩
  have hpair : ∀ (j : Nat) x, vs[j]? = some x → ∃ q, (Ds d).pending[j]? = some q := fun j x hx => ⟨_, List.getElem?_eq_getElem (by rw [← v1]; exact (List.getElem?_eq_some_iff.1 hx).1)⟩
  have hblk : ∀ (j : Nat) x, vs[j]? = some x → ∀ g, x.ownBlock = some g → w.heap.size ≤ g ∧ rho g = some (j + 1) := fun j x hx g eg => by
    obtain ⟨q, hq⟩ := hpair j x hx
    obtain ⟨g2, c2, k1, k2, k3, _⟩ := v4 j q hq
    rw [k1] at hx; cases hx
    simp only [Value.ownBlock, Option.some.injEq] at eg
    subst eg; exact ⟨k2, k3⟩
  refine ⟨a, cap, vs, _, rfl, hP.pn, hP.data, ⟨⟨v1, v2, fun g e => (h.free_new (v3 g e).1).1, fun j x q hx hq => ?_, fun i j x y hij hx hy g e1 e2 => ?_⟩, fun g e => ?_⟩, hM.1, hM.2⟩
  · obtain ⟨g2, c2, k1, k2, k3, k4⟩ := v4 j q hq
    rw [k1] at hx; cases hx
    exact ⟨k4, fun g e => (h.free_new (hblk j _ k1 g e).1).1⟩
  · have q1 := (hblk i x hx g e1).2
    have q2 := (hblk j y hy g e2).2
    rw [q1] at q2; simp at q2; omega
  · have hge : w.heap.size ≤ g := by
      rcases e with ⟨j, x, _, hx, hg⟩ | e
      · exact (hblk j x hx g hg).1
      · exact (v3 g e).1
    exact ⟨h.free_new hge, Nat.le_trans h.chg.size hge⟩

theorem Many.keepW (h : Many w0 w own bb rv bs os Ds k nb nw) (hnb : nb < 800000) (hnw : nw < 900) {a : Option Addr} {cap : Nat} {vs : List Value} {qs : List (Nat × List UInt8)} (hl : qs.length ≤ 1000) (hsz : ∀ q ∈ qs, q.2.length = 4096) (hh : HandW w0 w own os rv (.slice a qs.length cap) vs qs) :
    Calls Tryz.prog 11 #[.pointer (some ⟨bb, 0, none⟩), .slice a qs.length cap] w fun e w' => ∃ own', e = .returned (.tuple #[]) ∧ Many w0 w' own' bb rv bs os Ds k (nb + qs.length) (nw + 1) ∧ Keeps (fun g => Bls vs qs.length g ∨ (Value.slice a qs.length cap).ownBlock = some g) w own os rv w' own' os rv := by
  obtain ⟨F, rvb, wvb, xsb, wsb, ccb, rvw, wvw, xs, ws, cc, hB, a1, a2⟩ := h.book
  refine (writeskeep_any w own bb F hB.book rvb wvb xsb wsb ccb hB.f2 hB.f3 hB.keptb (by omega) rvw wvw xs ws cc hB.f17 hB.f18 hB.kept (by omega) a cap qs vs hl hh.fresh (fun p hp => by rw [hsz p hp]; omega)).mono ?_
  rintro e w' ⟨rfl, own', rvb', wvb', xsb', wsb', rv', wv', xs', ws', hb, hkb, hk, hS⟩
  have hn : ∀ {i : Nat}, i ≠ 2 → i ≠ 3 → i ≠ 29 → i ≠ 30 → setF (setF (setF (setF F 2 rvb') 3 wvb') 29 rv') 30 wv' i = F i := fun h2 h3 h17 h18 => by rw [setF_other h18, setF_other h17, setF_other h3, setF_other h2]
  have hfl := flatB_length qs
  refine ⟨own', rfl, h.kept (D := fun g => Bls vs qs.length g ∨ (Value.slice a qs.length cap).ownBlock = some g) ⟨_, rvb', wvb', xsb', wsb', _, rv', wv', xs', ws', _, ⟨hb, fun i h1 h2 h3 h4 h5 h6 => by rw [hn h3 h4 h5 h6]; exact hB.nils i h1 h2 h3 h4 h5 h6, by rw [hn (by decide) (by decide) (by decide) (by decide)]; exact hB.f0, by rw [hn (by decide) (by decide) (by decide) (by decide)]; exact hB.f1, by rw [setF_other (by decide), setF_other (by decide), setF_other (by decide), setF_same], by rw [setF_other (by decide), setF_other (by decide), setF_same], by rw [setF_other (by decide), setF_same], setF_same _ _ _, hkb, hk, ?_, ?_, ?_, ?_⟩, ?_, ?_⟩ (hS.chg.mono (fun g ⟨r, e, _⟩ => ⟨r, e⟩)) hS.keep (fun g r e => (hS.new g r e).imp id (fun e => e.imp id And.right)) (fun g e => hh.far g e)⟩
  · rw [List.length_append, hfl]; omega
  · rw [List.length_append]; simp only [List.length_cons, List.length_nil]; omega
  · intro x hx
    rcases List.mem_append.1 hx with hx | hx
    · exact hB.szb x hx
    · unfold flatB at hx
      obtain ⟨p, hp, rfl⟩ := List.mem_map.1 hx
      rw [hsz p hp]; omega
  · intro x hx
    rcases List.mem_append.1 hx with hx | hx
    · exact hB.sz x hx
    · simp only [List.mem_cons, List.not_mem_nil, or_false] at hx; subst hx; omega
  · rw [List.length_append, hfl]; omega
  · rw [List.length_append]; simp only [List.length_cons, List.length_nil]; omega

/-- The book's end: the disks stay. -/
structure After (w0 w : World) (rv : Value) (bs : List Nat) (os : Nat → Own) (Ds : Nat → DS) (k : Nat) : Prop where
  row : w.ownsRow 0 41 1 rv bs.length (bs.map ptr)
  disk : ∀ d b, bs[d]? = some b → DiskAt w (os d) 0 b (Ds d) ∧ PInv (Ds d) k
  apart : ∀ d d' g, d ≠ d' → (os d).blocks g → ¬ (os d').blocks g
  offr : ∀ g, rv.ownBlock = some g → ∀ d, ¬ (os d).blocks g
  far2 : ∀ d g, (os d).blocks g → w0.heap.size ≤ g
  chg : Chg (fun _ => False) w0 w
theorem Many.finish (h : Many w0 w own bb rv bs os Ds k nb nw) :
    Calls Tryz.prog 15 #[.pointer (some ⟨bb, 0, none⟩)] w fun e w' => e = .returned (.bool true) ∧ After w0 w' rv bs os Ds k ∧ (∀ g, g < w.heap.size → Free own os rv g → w'.heap[g]? = w.heap[g]?) := by
  obtain ⟨F, rvb, wvb, xsb, wsb, ccb, rvw, wvw, xs, ws, cc, hB, a1, a2⟩ := h.book
  refine (finish_any w own bb F rvb wvb xsb wsb ccb rvw wvw xs ws cc hB).mono ?_
  rintro e w' ⟨rfl, hc⟩
  exact ⟨rfl, ⟨ownsRow_chg h.row hc (fun g e ⟨r, f⟩ => by rw [(h.offr g e).1] at f; cases f), fun d b hd => ⟨(h.disk d b hd).1.chg hc (fun g hg ⟨r, f⟩ => by rw [h.offb d g hg] at f; cases f), (h.disk d b hd).2⟩, h.apart, fun g e => (h.offr g e).2, h.far2, h.chg.trans hc (fun x ⟨r, e⟩ => .inr (h.far1 x r e))⟩, fun g hg hf => hc.block g hg (fun ⟨r, e⟩ => by rw [hf.1] at e; cases e)⟩
theorem After.durable (h : After w0 w rv bs os Ds k) (hk : k ≤ 900) {d b : Nat} (hd : bs[d]? = some b) {fl : List UInt8} (hfl : (Ds d).lasting.flatten = fl) :
    Calls Tryz.prog 13 #[.pointer (some ⟨b, 0, none⟩)] w fun e w' => ∃ a cap, e = .returned (.slice a fl.length cap) ∧ SeesB w' (.slice a fl.length cap) fl ∧ After w0 w' rv bs os Ds k ∧ Chg (fun x => x = b) w w' := by
  obtain ⟨hD, hP⟩ := h.disk d b hd
  have hstr := hD.str
  have hok := hP.ok (k := k) (by omega)
  have := durable_any w (os d) b (Ds d) hD hok
  rw [hfl] at this
  refine this.mono ?_
  rintro e w' ⟨a, cap, rfl, h1, h2, h3⟩
  have hb : (os d).blocks b := Own.blocks_of hstr
  refine ⟨a, cap, rfl, SeesB.of_row h1.1, ⟨ownsRow_chg h.row h3 (fun g e f => by subst f; exact h.offr _ e d hb), fun i c hi => ?_, h.apart, h.offr, h.far2, h.chg.trans h3 (fun x e => .inr (by subst e; exact h.far2 d _ hb))⟩, h3⟩
  by_cases e : i = d
  · subst e
    rw [hd] at hi; cases hi
    exact ⟨h2, hP⟩
  · obtain ⟨k1, k2⟩ := h.disk i c hi
    exact ⟨k1.chg h3 (fun g hg f => by subst f; exact h.apart i d _ e hg hb), k2⟩
theorem After.chg0 {w' : World} (h : After w0 w rv bs os Ds k) (hc : Chg (fun _ => False) w w') : After w0 w' rv bs os Ds k :=
  ⟨ownsRow_chg h.row hc (fun _ _ f => f), fun d b hd => ⟨(h.disk d b hd).1.chg hc (fun _ _ f => f), (h.disk d b hd).2⟩, h.apart, h.offr, h.far2, h.chg.trans hc (fun _ f => f.elim)⟩
end Go.Proofs.YtckioocahmbhkaaGreatDoor
