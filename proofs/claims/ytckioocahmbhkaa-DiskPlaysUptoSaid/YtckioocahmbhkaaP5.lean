/- The pair. -/
import Derived.Test.YtckioocahmbhkaaP4
namespace Go.Proofs.Ytckioocahmbhkaa
open Go Go.RowKit Go.Maps Go.MuLone

/-- The pair at pb: the program's disk D, the document's R, and the place where pages are handed in. -/
structure PairF (w0 w : World) (pb : Nat) (own : Own) (b : Nat) (rown : Own) (rb : Nat) (gl n cap : Nat) (D R : DS) : Prop where
  st : St w0 w own b D
  rs : StR w0 w rown rb R
  dis : ∀ k, own.blocks k → ¬ rown.blocks k
  blk : w.heap[pb]? = some (.cells #[.pointer (some ⟨b, 0, none⟩), .pointer (some ⟨rb, 0, none⟩), .slice (some ⟨gl, 0, none⟩) n cap] 63)
  row : ∃ es, w.ownsRow 0 5 1 (.slice (some ⟨gl, 0, none⟩) n cap) n es
  pnew : w0.heap.size ≤ pb
  gnew : w0.heap.size ≤ gl
  po : ¬ own.blocks pb
  pr : ¬ rown.blocks pb
  lo : ¬ own.blocks gl
  lr : ¬ rown.blocks gl
  ne : gl ≠ pb

section
variable {w0 w w' : World} {pb b rb gl n cap : Nat} {own own' rown rown' : Own} {D D' R R' : DS}
theorem PairF.other (h : PairF w0 w pb own b rown rb gl n cap D R) {S : Nat → Prop} (hc : Chg S w w') (hs : ∀ k, S k → ¬ own.blocks k ∧ ¬ rown.blocks k ∧ k ≠ pb ∧ k ≠ gl ∧ w0.heap.size ≤ k) : PairF w0 w' pb own b rown rb gl n cap D R := by
  obtain ⟨es, hr⟩ := h.row
  exact ⟨h.st.other hc (fun k hk => ⟨(hs k hk).1, (hs k hk).2.2.2.2⟩), h.rs.other hc (fun k hk => ⟨(hs k hk).2.1, (hs k hk).2.2.2.2⟩), h.dis, hc.get h.blk (fun e => (hs _ e).2.2.1 rfl), ⟨es, ownsRow_chg hr hc (fun g e => by cases e; exact fun e => (hs _ e).2.2.2.1 rfl)⟩, h.pnew, h.gnew, h.po, h.pr, h.lo, h.lr, h.ne⟩
theorem PairF.chg0 (h : PairF w0 w pb own b rown rb gl n cap D R) (hc : Chg (fun _ => False) w w') : PairF w0 w' pb own b rown rb gl n cap D R := h.other hc (fun _ f => f.elim)
theorem PairF.plt (h : PairF w0 w pb own b rown rb gl n cap D R) : pb < w.heap.size := heap_lt h.blk
theorem PairF.llt (h : PairF w0 w pb own b rown rb gl n cap D R) : gl < w.heap.size := by
  obtain ⟨es, hr⟩ := h.row
  rcases hr.2 with ⟨e, _⟩ | ⟨g, c, cur, e, _, hh, _⟩
  · cases e
  · cases e; exact heap_lt hh
theorem PairF.stepD (h : PairF w0 w pb own b rown rb gl n cap D R) (hs : St w0 w' own' b D') (t : Step w own w' own') : PairF w0 w' pb own' b rown rb gl n cap D' R := by
  obtain ⟨es, hr⟩ := h.row
  have h1 := h.plt
  have h2 := h.llt
  refine ⟨hs, h.rs.other t.chg (fun k hk => ⟨h.dis k hk, h.st.new k hk⟩), fun k hk e => ?_, t.chg.get h.blk h.po, ⟨es, ownsRow_chg hr t.chg (fun g e => by cases e; exact h.lo)⟩, h.pnew, h.gnew, fun e => ?_, h.pr, fun e => ?_, h.lr, h.ne⟩
  · rcases t.new k hk with e1 | e1
    · exact h.dis k e1 e
    · have := h.rs.lt e; omega
  · rcases t.new _ e with e1 | e1
    · exact h.po e1
    · omega
  · rcases t.new _ e with e1 | e1
    · exact h.lo e1
    · omega
theorem PairF.stepR (h : PairF w0 w pb own b rown rb gl n cap D R) (hs : StR w0 w' rown' rb R') (t : Step w rown w' rown') : PairF w0 w' pb own b rown' rb gl n cap D R' := by
  obtain ⟨es, hr⟩ := h.row
  have h1 := h.plt
  have h2 := h.llt
  refine ⟨h.st.other t.chg (fun k hk => ⟨fun e => h.dis k e hk, h.rs.new k hk⟩), hs, fun k hk e => ?_, t.chg.get h.blk h.pr, ⟨es, ownsRow_chg hr t.chg (fun g e => by cases e; exact h.lr)⟩, h.pnew, h.gnew, h.po, fun e => ?_, h.lo, fun e => ?_, h.ne⟩
  · rcases t.new k e with e1 | e1
    · exact h.dis k hk e1
    · have := h.st.lt hk; omega
  · rcases t.new _ e with e1 | e1
    · exact h.pr e1
    · omega
  · rcases t.new _ e with e1 | e1
    · exact h.lr e1
    · omega
theorem PairF.cells (h : PairF w0 w pb own b rown rb gl n cap D R) : w.cell? ⟨pb, 0, none⟩ = some (.pointer (some ⟨b, 0, none⟩)) ∧ w.cell? ⟨pb, 1, none⟩ = some (.pointer (some ⟨rb, 0, none⟩)) ∧ w.cell? ⟨pb, 2, none⟩ = some (.slice (some ⟨gl, 0, none⟩) n cap) ∧ ∀ i, w.frozen? ⟨pb, i, none⟩ = false := by
  refine ⟨?_, ?_, ?_, fun i => ?_⟩
  · simp [World.cell?, h.blk]
  · simp [World.cell?, h.blk]
  · simp [World.cell?, h.blk]
  · simp [World.frozen?, h.blk]
theorem PairF.rcells (h : PairF w0 w pb own b rown rb gl n cap D R) : w.cell? ⟨rb, 0, none⟩ = some (.int .i64 R.cap) ∧ w.cell? ⟨rb, 3, none⟩ = some (.bool R.off) ∧ w.cell? ⟨rb, 5, none⟩ = some (.int .i64 R.done) ∧ w.cell? ⟨rb, 6, none⟩ = some (.int .i64 R.reads) := by
  obtain ⟨lv, pv, hF⟩ := h.rs.disk
  refine ⟨?_, ?_, ?_, ?_⟩ <;> simp [World.cell?, hF.blk, refCells]
end

end Go.Proofs.Ytckioocahmbhkaa
