/- Words on a function's text: its regions and its tests. The state of the law DiskLasts. -/
import Derived.Test.YtckioocahmbhkaaC3
namespace Go.Proofs.Ytckioocahmbhkaa
open Go Go.RowKit Go.Maps Go.MuLone

def regIn (k : Nat) : Code → Option Code
  | .region n o d => if n = k then some (.region n o d) else none
  | .block _ c => regIn k c
  | .seq a b => match regIn k a with
    | some c => some c
    | none => regIn k b
  | .cond _ a b => match regIn k a with
    | some c => some c
    | none => regIn k b
  | .loop c => regIn k c
  | .scope c => regIn k c
  | _ => none
noncomputable def reg (k : Nat) (f : Func) : Code := ((f.body.bind (regIn k)).getD .skip)
def isTmp (k : Nat) : Operand → Bool
  | .tmp n => n == k
  | _ => false
def cndIn (k : Nat) : Code → Option Code
  | .block _ c => cndIn k c
  | .seq a b => match cndIn k a with
    | some c => some c
    | none => cndIn k b
  | .cond o a b => if isTmp k o then some (.cond o a b) else match cndIn k a with
    | some c => some c
    | none => cndIn k b
  | .loop c => cndIn k c
  | .scope c => cndIn k c
  | _ => none
noncomputable def cnd (k : Nat) (f : Func) : Code := ((f.body.bind (cndIn k)).getD .skip)

/-- The law's own book. -/
def Bk (w0 w : World) (own : Own) (v : Value) (book : List UInt8) : Prop :=
  (∃ a cap, v = .slice a book.length cap) ∧ w.ownsRow 0 5 1 v book.length (bVs book) ∧ ∀ g, v.ownBlock = some g → w0.heap.size ≤ g ∧ ¬ own.blocks g

theorem Bk.nil (w0 w : World) (own : Own) : Bk w0 w own (.slice none 0 0) [] := ⟨⟨none, 0, rfl⟩, World.ownsRow_nil _ _ _ _, fun g e => by simp [Value.ownBlock] at e⟩
theorem Bk.step {w0 w w' : World} {own own' : Own} {v : Value} {book : List UInt8} (h : Bk w0 w own v book) (hst : Step w own w' own') : Bk w0 w' own' v book :=
  ⟨h.1, ownsRow_chg h.2.1 hst.chg (fun g e => (h.2.2 g e).2), fun g e => ⟨(h.2.2 g e).1, (hst.keep (h.2.2 g e).2 (h.2.1.lt g e).2).1⟩⟩
theorem Bk.chg {w0 w w' : World} {own : Own} {v : Value} {book : List UInt8} {S : Nat → Prop} (h : Bk w0 w own v book) (hc : Chg S w w') (hs : ∀ g, v.ownBlock = some g → ¬ S g) : Bk w0 w' own v book :=
  ⟨h.1, ownsRow_chg h.2.1 hc hs, h.2.2⟩

/-- The state between the law's steps. -/
def Lx (w0 w : World) (b : Nat) (C : Int) (n : Nat) (v : Value) (book : List UInt8) : Prop :=
  ∃ own D, St w0 w own b D ∧ LInv D C n (bookP book) ∧ Bk w0 w own v book ∧ book.length ≤ n

/-- May the Write be done. -/
def May (C : Int) (book : List UInt8) (x : Int × UInt8) : Prop := 0 ≤ x.1 ∧ x.1 ≤ book.length ∧ x.1 < C
instance (C : Int) (book : List UInt8) (x : Int × UInt8) : Decidable (May C book x) := by unfold May; infer_instance
/-- The book behind it. -/
def bookW (C : Int) (book : List UInt8) (x : Int × UInt8) : List UInt8 := if May C book x then (if x.1.toNat = book.length then book ++ [x.2] else book.set x.1.toNat x.2) else book

/-- Behind a Write, the book not yet turned. -/
def Lw (w0 w : World) (b : Nat) (C : Int) (n : Nat) (v : Value) (book : List UInt8) (x : Int × UInt8) (c : Int) : Prop :=
  ∃ own D, St w0 w own b D ∧ Bk w0 w own v book ∧ (c = 0 ↔ May C book x) ∧ LInv D C (n + 1) (bookP (bookW C book x)) ∧ book.length ≤ n

theorem Lw_of {w0 w : World} {own : Own} {b : Nat} {C : Int} (hC : C ≤ 40) {n : Nat} {v : Value} {book : List UInt8} {x : Int × UInt8} {D D' : DS} {c : Int} (hS : St w0 w own b D') (hB : Bk w0 w own v book) (hL : LInv D C n (bookP book)) (hl : book.length ≤ n)
    (hD : D.write x.1 (rep 4096 x.2) = (c, D')) : Lw w0 w b C n v book x c := by
  refine ⟨own, D', hS, hB, ?_, ?_, hl⟩
  · by_cases h : May C book x
    · obtain ⟨h1, h2, h3⟩ := h
      have := (L_write hL x.1.toNat (rep 4096 x.2) (rep_length _ _) (by rw [bookP_length]; omega) (by omega) (by omega)).1
      rw [Int.toNat_of_nonneg h1, hD] at this
      cases this
      exact ⟨fun _ => ⟨h1, h2, h3⟩, fun _ => rfl⟩
    · obtain ⟨c', e, hc⟩ := L_refuse hL x.1 (rep 4096 x.2) (by rw [bookP_length]; exact h)
      rw [hD] at e; cases e
      exact ⟨fun e => (hc e).elim, fun e => (h e).elim⟩
  · unfold bookW
    by_cases h : May C book x
    · rw [if_pos h]
      obtain ⟨h1, h2, h3⟩ := h
      have := L_write hL x.1.toNat (rep 4096 x.2) (rep_length _ _) (by rw [bookP_length]; omega) (by omega) (by omega)
      rw [Int.toNat_of_nonneg h1, hD] at this
      obtain ⟨e, k⟩ := this
      cases e
      rw [bookP_length] at k
      split
      · rename_i e2; rw [if_pos e2] at k; rw [bookP_snoc]; exact k
      · rename_i e2; rw [if_neg e2] at k; rw [bookP_set]; exact k
    · rw [if_neg h]
      obtain ⟨c', e, hc⟩ := L_refuse hL x.1 (rep 4096 x.2) (by rw [bookP_length]; exact h)
      rw [hD] at e; cases e
      exact hL.more

theorem bVs_snoc (p : List UInt8) (x : UInt8) : bVs (p ++ [x]) = bVs p ++ [bV x] := by simp [bVs]
theorem Lx_set {w0 w : World} {own : Own} {b : Nat} {C : Int} {n : Nat} {bg bcap k : Nat} {book : List UInt8} {x : UInt8} {D : DS} (hS : St w0 w own b D) (hL : LInv D C (n + 1) (bookP (book.set k x))) (hR : w.ownsRow 0 5 1 (.slice (some ⟨bg, 0, none⟩) book.length bcap) book.length (bVs book))
    (hG : ∀ g, (Value.slice (some ⟨bg, 0, none⟩) book.length bcap).ownBlock = some g → w0.heap.size ≤ g ∧ ¬ own.blocks g) (hbl : book.length ≤ n) (hk : k < book.length) :
    Lx w0 (w.setCell ⟨bg, k, none⟩ (.int .u8 x.toNat)).drew b C (n + 1) (.slice (some ⟨bg, 0, none⟩) book.length bcap) (book.set k x) := by
  have g1 := hG bg rfl
  refine ⟨own, D, (hS.store (o := k) (.int .u8 x.toNat) g1.2 g1.1).other (Chg.refl (fun _ => False) _).drew (fun _ f => f.elim), hL, ⟨⟨_, _, by rw [List.length_set]⟩, ?_, hG⟩, by rw [List.length_set]; omega⟩
  rw [List.length_set, bVs_set]
  exact ownsRow_setCell hR k (.int .u8 x.toNat) (by rw [bVs_length]; omega)

end Go.Proofs.Ytckioocahmbhkaa
