/- The pool, and the book of all lists that it was answered. -/
import Derived.Test.YtipclbibomemjaaGreatDoorZ1
import Derived.Test.YtipclbibomemjaaGreatDoorBKi6
namespace Go.Proofs.YtipclbibomemjaaGreatDoor
open Go Go.RowKit Go.Maps

theorem Chg.get_cell {S : Nat → Prop} {w w' : World} {b o : Nat} {v : Value} (h : Chg S w w') (hc : w.cell? ⟨b, o, none⟩ = some v) (hs : ¬ S b) : w'.cell? ⟨b, o, none⟩ = some v := (cell_chg h (World.block_lt_of_cell? _ _ hc) hs).trans hc
structure OwnB (w0 w : World) (pb m1 m2 b : Nat) (P : PS) (n : Nat) (own : Own) (F : Nat → Value) (rv wv : Value) (xs ws : List (Value × Nat)) (cc : List (List Int)) : Prop where
  book : BookF 46 w own b F
  nils : ∀ i, 2 ≤ i → i < 41 → i ≠ 5 → i ≠ 6 → F i = .slice none 0 0
  f0 : F 0 = .int .i64 0
  f1 : F 1 = .int .i64 0
  frv : F 5 = rv
  fwv : F 6 = wv
  kept : intsKept w own rv wv xs ws cc
  len : cc.length ≤ n
  sz : ∀ bs ∈ cc, bs.length ≤ 1000000
  pool : PoolF w pb m1 m2 P
  n0 : own pb = none
  n1 : own m1 = none
  n2 : own m2 = none
  far : ∀ g r, own g = some r → w0.heap.size ≤ g
  pf : w0.heap.size ≤ pb ∧ w0.heap.size ≤ m1 ∧ w0.heap.size ≤ m2
  chg : Chg (fun _ => False) w0 w
/-- The pool, and a book of at most n lists. -/
def Own3 (w0 w : World) (pb m1 m2 b : Nat) (P : PS) (n : Nat) : Prop := ∃ own F rv wv xs ws cc, OwnB w0 w pb m1 m2 b P n own F rv wv xs ws cc
theorem Own3.pool {w0 w : World} {pb m1 m2 b : Nat} {P : PS} {n : Nat} (h : Own3 w0 w pb m1 m2 b P n) : PoolF w pb m1 m2 P := by
  obtain ⟨_, _, _, _, _, _, _, h⟩ := h; exact h.pool
theorem Own3.chg {w0 w : World} {pb m1 m2 b : Nat} {P : PS} {n : Nat} (h : Own3 w0 w pb m1 m2 b P n) : Chg (fun _ => False) w0 w := by
  obtain ⟨_, _, _, _, _, _, _, h⟩ := h; exact h.chg
theorem Own3.pf {w0 w : World} {pb m1 m2 b : Nat} {P : PS} {n : Nat} (h : Own3 w0 w pb m1 m2 b P n) : w0.heap.size ≤ pb ∧ w0.heap.size ≤ m1 ∧ w0.heap.size ≤ m2 := by
  obtain ⟨_, _, _, _, _, _, _, h⟩ := h; exact h.pf
theorem Own3.mono {w0 w : World} {pb m1 m2 b : Nat} {P : PS} {n m : Nat} (h : Own3 w0 w pb m1 m2 b P n) (hm : n ≤ m) : Own3 w0 w pb m1 m2 b P m := by
  obtain ⟨own, F, rv, wv, xs, ws, cc, h⟩ := h
  exact ⟨own, F, rv, wv, xs, ws, cc, { h with len := Nat.le_trans h.len hm }⟩
theorem OwnB.off {w0 w : World} {pb m1 m2 b : Nat} {P : PS} {n : Nat} {own : Own} {F : Nat → Value} {rv wv : Value} {xs ws : List (Value × Nat)} {cc : List (List Int)} (h : OwnB w0 w pb m1 m2 b P n own F rv wv xs ws cc) : ∀ g r, own g = some r → ¬ PB pb m1 m2 g := fun g r e hp => by
  rcases hp with e2 | e2 | e2
  · rw [e2, h.n0] at e; cases e
  · rw [e2, h.n1] at e; cases e
  · rw [e2, h.n2] at e; cases e
theorem OwnB.work {w0 w w' : World} {pb m1 m2 b : Nat} {P P' : PS} {n : Nat} {own : Own} {F : Nat → Value} {rv wv : Value} {xs ws : List (Value × Nat)} {cc : List (List Int)} (h : OwnB w0 w pb m1 m2 b P n own F rv wv xs ws cc) (hc : Chg (PB pb m1 m2) w w') (hp : PoolF w' pb m1 m2 P') : OwnB w0 w' pb m1 m2 b P' n own F rv wv xs ws cc := by
  obtain ⟨cs, h1, h2, h3⟩ := h.book.cells
  refine ⟨⟨⟨cs, hc.get h1 (h.off b _ h.book.role), h2, h3⟩, h.book.role, fun g r e => Nat.lt_of_lt_of_le (h.book.lt g r e) hc.size⟩, h.nils, h.f0, h.f1, h.frv, h.fwv, h.kept.chg hc h.off, h.len, h.sz, hp, h.n0, h.n1, h.n2, h.far, h.pf, h.chg.trans hc (fun x e => .inr ?_)⟩
  have := h.pf
  rcases e with e | e | e <;> omega
theorem Own3.work {w0 w w' : World} {pb m1 m2 b : Nat} {P P' : PS} {n : Nat} (h : Own3 w0 w pb m1 m2 b P n) (hc : Chg (PB pb m1 m2) w w') (hp : PoolF w' pb m1 m2 P') : Own3 w0 w' pb m1 m2 b P' n := by
  obtain ⟨own, F, rv, wv, xs, ws, cc, h⟩ := h
  exact ⟨own, F, rv, wv, xs, ws, cc, h.work hc hp⟩
theorem Own3.chg0 {w0 w w' : World} {pb m1 m2 b : Nat} {P : PS} {n : Nat} (h : Own3 w0 w pb m1 m2 b P n) (hc : Chg (fun _ => False) w w') : Own3 w0 w' pb m1 m2 b P n :=
  h.work (hc.mono (fun _ f => f.elim)) (h.pool.chg0 hc)

/-- A list that was just made is kept. -/
theorem keep_own {w0 w1 w : World} {pb m1 m2 b : Nat} {P P' : PS} {n : Nat} (h : Own3 w0 w1 pb m1 m2 b P n) (hn : n ≤ 1000) (hc : Chg (PB pb m1 m2) w1 w) (hp : PoolF w pb m1 m2 P') {a : Option Addr} {cap : Nat} {bs : List Int} (hN : NewI w1 w (.slice a bs.length cap) bs) (hl : bs.length ≤ 1000000) :
    Calls Tryz.prog 12 #[.pointer (some ⟨b, 0, none⟩), .slice a bs.length cap] w fun e w' => e = .returned (.tuple #[]) ∧ Own3 w0 w' pb m1 m2 b P' (n + 1) := by
  obtain ⟨l0, l1, l2⟩ := h.pool.lt
  obtain ⟨own, F, rv, wv, xs, ws, cc, h1⟩ := h
  have h := h1.work hc hp
  have hlt1 := h1.book.lt
  have hs0 := h1.chg.size
  refine (intskeep_any w own b F h.book rv wv xs ws cc h.frv h.fwv h.kept (by have := h.len; omega) a cap bs hl hN.1 (fun g e => ?_)).mono ?_
  · cases e2 : own g with
    | none => rfl
    | some r => have := hlt1 g r e2; have := hN.2 g e; omega
  · rintro e w' ⟨rfl, own', rv', wv', u, hb, hk, hS⟩
    have hno : ∀ k, own k = none → k < w1.heap.size → own' k = none := fun k e hk => by
      cases e2 : own' k with
      | none => rfl
      | some r =>
        rcases hS.new k r e2 with e3 | e3 | e3
        · rw [e] at e3; cases e3
        · have := hc.size; omega
        · have := hN.2 k e3; omega
    have hoff : ∀ k, own k = none → ¬ ∃ r, own k = some r ∧ (r = (1, 5) ∨ r = (1, 6) ∨ r = (0, 0)) := fun k e ⟨r, e2, _⟩ => by rw [e] at e2; cases e2
    refine ⟨rfl, own', _, rv', wv', _, _, _, hb, fun i a1 a2 a3 a4 => ?_, ?_, ?_, ?_, setF_same _ _ _, hk, ?_, ?_, hp.chg hS.chg (hoff _ h.n0) (hoff _ h.n1) (hoff _ h.n2), hno _ h.n0 l0, hno _ h.n1 l1, hno _ h.n2 l2, ?_, h.pf, ?_⟩
    · rw [setF_other a4, setF_other a3]; exact h.nils i a1 a2 a3 a4
    · rw [setF_other (by decide), setF_other (by decide)]; exact h.f0
    · rw [setF_other (by decide), setF_other (by decide)]; exact h.f1
    · rw [setF_other (by decide), setF_same]
    · rw [List.length_append]; have := h.len; simp only [List.length_cons, List.length_nil]; omega
    · intro x hx
      rcases List.mem_append.1 hx with hx | hx
      · exact h.sz x hx
      · simp only [List.mem_cons, List.not_mem_nil, or_false] at hx; subst hx; exact hl
    · intro g r e
      rcases hS.new g r e with e3 | e3 | e3
      · exact h.far g r e3
      · have := hc.size; omega
      · have := hN.2 g e3; omega
    · exact h.chg.trans hS.chg (fun x ⟨r, e, _⟩ => .inr (h.far x r e))

/-- The free ones asked, and kept. -/
theorem lens_small {P : PS} (hok : P.ok) : (nums P.free).length ≤ 1000000 ∧ (nums P.usable).length ≤ 1000000 := by
  rw [nums_length, nums_length]
  exact ⟨hok.len, usable_len hok⟩
theorem commit_len2 {P : PS} {n : Nat} (h : P.fit n) {d : Int} {gone : List Int} {ver : Int} {zs : List Int} {c : Int} {P' : PS} (hC : P.commit d gone ver = (zs, c, P')) : zs.length ≤ 1000000 := by
  unfold PS.commit at hC
  split at hC
  · cases hC; simp
  split at hC
  · cases hC; simp
  · cases hC
    rename_i h1 h2
    rw [← giv_given, giv_length]
    unfold PS.wants
    unfold PS.room at h2
    have h3 : P.usable.length ≤ P.free.length := List.length_filter_le _ _
    have h4 := rising_len P.free 2 P.size h.ok.rise h.ok.lo h.ok.hi
    have := h.cap
    have := h.size
    omega
/-- What is not the book's nor the pool's. -/
theorem Own3.new_pool {w0 w : World} {pb m1 m2 b : Nat} {P : PS} {n : Nat} (h : Own3 w0 w pb m1 m2 b P n) : pb < w.heap.size ∧ m1 < w.heap.size ∧ m2 < w.heap.size := h.pool.lt
end Go.Proofs.YtipclbibomemjaaGreatDoor
