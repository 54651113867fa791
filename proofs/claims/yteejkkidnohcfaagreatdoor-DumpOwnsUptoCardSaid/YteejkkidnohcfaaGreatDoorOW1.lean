/- The book of what Parse and Unhex answered. -/
import Derived.Test.YteejkkidnohcfaaGreatDoorBPc
import Derived.Test.YteejkkidnohcfaaGreatDoorTP
import Derived.Test.YteejkkidnohcfaaGreatDoorW11
namespace Go.Proofs.YteejkkidnohcfaaGreatDoor
open Go Go.RowKit Go.Maps

/-- A book of at most nb lists of bytes and np lists of pairs, of memory made behind w0. -/
def OwnD (w0 w : World) (b nb np : Nat) : Prop :=
  ∃ own F rvb wvb xsb wsb ccb rv wv xs ws cc, Book2 w own b F rvb wvb xsb wsb ccb rv wv xs ws cc ∧ ccb.length ≤ nb ∧ cc.length ≤ np ∧ (∀ g r, own g = some r → w0.heap.size ≤ g) ∧ Chg (fun _ => False) w0 w
theorem OwnD.chg {w0 w : World} {b nb np : Nat} (h : OwnD w0 w b nb np) : Chg (fun _ => False) w0 w := by
  obtain ⟨_, _, _, _, _, _, _, _, _, _, _, _, _, _, _, _, h⟩ := h; exact h
theorem OwnD.mono {w0 w : World} {b nb np nb' np' : Nat} (h : OwnD w0 w b nb np) (h1 : nb ≤ nb') (h2 : np ≤ np') : OwnD w0 w b nb' np' := by
  obtain ⟨own, F, rvb, wvb, xsb, wsb, ccb, rv, wv, xs, ws, cc, hB, a1, a2, a3, a4⟩ := h
  exact ⟨own, F, rvb, wvb, xsb, wsb, ccb, rv, wv, xs, ws, cc, hB, by omega, by omega, a3, a4⟩
theorem Book2.chg0 {w w' : World} {own : Own} {b : Nat} {F : Nat → Value} {rvb wvb : Value} {xsb wsb : List (Value × Nat)} {ccb : List (List UInt8)} {rv wv : Value} {xs ws : List (Value × Nat)} {cc : List (List PairB)} (h : Book2 w own b F rvb wvb xsb wsb ccb rv wv xs ws cc) (hc : Chg (fun _ => False) w w') : Book2 w' own b F rvb wvb xsb wsb ccb rv wv xs ws cc :=
  { h with book := h.book.step (OStep.of0 (R := fun _ => False) h.book.lt hc) (fun f => f), keptb := h.keptb.chg0 hc, kept := h.kept.chg0 hc }
theorem OwnD.chg0 {w0 w w' : World} {b nb np : Nat} (h : OwnD w0 w b nb np) (hc : Chg (fun _ => False) w w') : OwnD w0 w' b nb np := by
  obtain ⟨own, F, rvb, wvb, xsb, wsb, ccb, rv, wv, xs, ws, cc, hB, a1, a2, a3, a4⟩ := h
  exact ⟨own, F, rvb, wvb, xsb, wsb, ccb, rv, wv, xs, ws, cc, hB.chg0 hc, a1, a2, a3, a4.trans hc (fun _ f => f.elim)⟩
theorem free_new {w1 : World} {own : Own} (hlt : ∀ g r, own g = some r → g < w1.heap.size) {g : Nat} (h : w1.heap.size ≤ g) : own g = none := by
  cases e : own g with
  | none => rfl
  | some r => have := hlt g r e; omega

/-- What Unhex answered is kept. -/
theorem keepB {w0 w1 w : World} {b nb np : Nat} (h : OwnD w0 w1 b nb np) (h4 : 4 ≤ w0.heap.size) (hnb : nb < 800000) (hc : Chg (fun _ => False) w1 w) (a : Option Addr) (cap : Nat) (bs : List UInt8) (hl : bs.length ≤ 16777216) (hr : w.ownsRow 0 5 1 (.slice a bs.length cap) bs.length (bVs bs)) (hu : ∀ g, (Value.slice a bs.length cap).ownBlock = some g → w1.heap.size ≤ g) :
    Calls Tryz.prog 13 #[.pointer (some ⟨b, 0, none⟩), .slice a bs.length cap] w fun e w' => e = .returned (.tuple #[]) ∧ OwnD w0 w' b (nb + 1) np := by
  have hs := h.chg.size
  obtain ⟨own, F, rvb, wvb, xsb, wsb, ccb, rv, wv, xs, ws, cc, hB1, a1, a2, a3, a4⟩ := h
  have hB := hB1.chg0 hc
  refine (byteskeep_any w own b F hB.book rvb wvb xsb wsb ccb hB.f2 hB.f3 hB.keptb (by omega) a cap bs hl hr (fun g e => free_new hB1.book.lt (hu g e))).mono ?_
  rintro e w' ⟨rfl, own', rv', wv', u, hb, hk, hS⟩
  have hnew : ∀ g r, own' g = some r → w0.heap.size ≤ g := fun g r e => by
    rcases hS.new g r e with e | e | e
    · exact a3 g r e
    · have := hc.size; omega
    · have := hu g e; omega
  have hn : ∀ {i : Nat}, i ≠ 2 → i ≠ 3 → setF (setF F 2 rv') 3 wv' i = F i := fun h2 h3 => by rw [setF_other h3, setF_other h2]
  refine ⟨rfl, own', _, rv', wv', _, _, _, rv, wv, xs, ws, cc, ⟨hb, fun i h1 h2 h3 h4 h5 h6 => by rw [hn h3 h4]; exact hB.nils i h1 h2 h3 h4 h5 h6, by rw [hn (by decide) (by decide)]; exact hB.f0, by rw [hn (by decide) (by decide)]; exact hB.f1, by rw [setF_other (by decide), setF_same], setF_same _ _ _, by rw [hn (by decide) (by decide)]; exact hB.f17, by rw [hn (by decide) (by decide)]; exact hB.f18, hk, ?_, ?_, hB.len, ?_, hB.sz, fun g r e => Nat.le_trans h4 (hnew g r e)⟩, ?_, a2, hnew, ?_⟩
  · exact (hB.kept.chg hS.chg (fun g r e hr => fun ⟨r', e2, h2⟩ => by
      rw [e] at e2; cases e2
      rcases h2 with h2 | h2 | h2 <;> rw [h2] at hr <;> simp at hr)).more hS.keep
  · rw [List.length_append]; simp only [List.length_cons, List.length_nil]; omega
  · intro x hx
    rcases List.mem_append.1 hx with hx | hx
    · exact hB.szb x hx
    · simp only [List.mem_cons, List.not_mem_nil, or_false] at hx; subst hx; omega
  · rw [List.length_append]; simp only [List.length_cons, List.length_nil]; omega
  · exact (a4.trans hc (fun _ f => f.elim)).trans hS.chg (fun x ⟨r, e, _⟩ => .inr (a3 x r e))

/-- What Parse answered is kept. -/
theorem keepP {w0 w1 w : World} {b nb np : Nat} (h : OwnD w0 w1 b nb np) (h4 : 4 ≤ w0.heap.size) (hnb : nb < 800000) (hnp : np < 900) (hc : Chg (fun _ => False) w1 w) {v : Value} {vs : List (Value × Value)} {ps : List PairB} (hr : RowL w1 w v vs ps) (hap : Apart vs) (hl : ps.length ≤ 1000) (hsm : SmallP ps) :
    Calls Tryz.prog 10 #[.pointer (some ⟨b, 0, none⟩), v] w fun e w' => e = .returned (.tuple #[]) ∧ OwnD w0 w' b (nb + 2 * ps.length) (np + 1) := by
  have hs := h.chg.size
  obtain ⟨own, F, rvb, wvb, xsb, wsb, ccb, rv, wv, xs, ws, cc, hB1, a1, a2, a3, a4⟩ := h
  have hB := hB1.chg0 hc
  obtain ⟨a, cap, rfl⟩ := hr.shape
  have hfr : FreshP w own (.slice a ps.length cap) vs ps := ⟨hr.len, hr.row, fun g e => free_new hB1.book.lt (hr.own g e), fun j x p hx hp => by
    obtain ⟨n1, n2⟩ := hr.bytes j x p hx hp
    exact ⟨⟨n1.2.1, n2.2.1⟩, fun g hg => free_new hB1.book.lt (hg.elim (n1.2.2 g) (n2.2.2 g))⟩, hap⟩
  refine (pairskeep_any w own b F hB.book rvb wvb xsb wsb ccb hB.f2 hB.f3 hB.keptb (by omega) rv wv xs ws cc hB.f17 hB.f18 hB.kept (by omega) a cap ps vs hl hfr (fun p hp => hsm.key p hp) hsm).mono ?_
  rintro e w' ⟨rfl, own', rvb', wvb', xsb', wsb', rv', wv', xs', ws', hb, hkb, hk, hS⟩
  have hD : ∀ g, (Bls vs ps.length g ∨ (Value.slice a ps.length cap).ownBlock = some g) → w1.heap.size ≤ g := fun g hg => by
    rcases hg with ⟨j, x, hj, hx, hg⟩ | hg
    · obtain ⟨p, hp⟩ : ∃ p, ps[j]? = some p := ⟨_, List.getElem?_eq_getElem hj⟩
      obtain ⟨n1, n2⟩ := hr.bytes j x p hx hp
      exact hg.elim (n1.2.2 g) (n2.2.2 g)
    · exact hr.own g hg
  have hnew : ∀ g r, own' g = some r → w0.heap.size ≤ g := fun g r e => by
    rcases hS.new g r e with e | e | ⟨_, e⟩
    · exact a3 g r e
    · have := hc.size; omega
    · have := hD g e; omega
  have hn : ∀ {i : Nat}, i ≠ 2 → i ≠ 3 → i ≠ 17 → i ≠ 18 → setF (setF (setF (setF F 2 rvb') 3 wvb') 17 rv') 18 wv' i = F i := fun h2 h3 h17 h18 => by rw [setF_other h18, setF_other h17, setF_other h3, setF_other h2]
  have hfl := flatB_length ps
  refine ⟨rfl, own', _, rvb', wvb', xsb', wsb', _, rv', wv', xs', ws', _, ⟨hb, fun i h1 h2 h3 h4 h5 h6 => by rw [hn h3 h4 h5 h6]; exact hB.nils i h1 h2 h3 h4 h5 h6, by rw [hn (by decide) (by decide) (by decide) (by decide)]; exact hB.f0, by rw [hn (by decide) (by decide) (by decide) (by decide)]; exact hB.f1, by rw [setF_other (by decide), setF_other (by decide), setF_other (by decide), setF_same], by rw [setF_other (by decide), setF_other (by decide), setF_same], by rw [setF_other (by decide), setF_same], setF_same _ _ _, hkb, hk, ?_, ?_, ?_, ?_, fun g r e => Nat.le_trans h4 (hnew g r e)⟩, ?_, ?_, hnew, ?_⟩
  · rw [List.length_append, hfl]; omega
  · rw [List.length_append]; simp only [List.length_cons, List.length_nil]; omega
  · intro x hx
    rcases List.mem_append.1 hx with hx | hx
    · exact hB.szb x hx
    · unfold flatB at hx
      obtain ⟨p, hp, hx⟩ := List.mem_flatMap.1 hx
      have := hsm.key p hp
      simp only [List.mem_cons, List.not_mem_nil, or_false] at hx
      rcases hx with rfl | rfl <;> omega
  · intro x hx
    rcases List.mem_append.1 hx with hx | hx
    · exact hB.sz x hx
    · simp only [List.mem_cons, List.not_mem_nil, or_false] at hx; subst hx; omega
  · rw [List.length_append, hfl]; omega
  · rw [List.length_append]; simp only [List.length_cons, List.length_nil]; omega
  · exact (a4.trans hc (fun _ f => f.elim)).trans hS.chg (fun x ⟨r, e, _⟩ => .inr (a3 x r e))
end Go.Proofs.YteejkkidnohcfaaGreatDoor
