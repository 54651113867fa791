/- Commit, in numbers, and its memory. -/
import Derived.Test.YtipclbibomemjaaGreatDoorU6
namespace Go.Proofs.YtipclbibomemjaaGreatDoor
open Go Go.RowKit Go.Maps

def PS.wants (P : PS) (d : Int) (gone : List Int) : Nat := (d + P.lists d gone).toNat
/-- The free ones that are given out. -/
def PS.old (P : PS) (d : Int) (gone : List Int) : List Int := (nums P.usable).take (P.wants d gone)
def news (size j : Nat) : List Int := (List.range j).map fun i => ((size + i : Nat) : Int)
theorem news_succ (size j : Nat) : news size (j + 1) = news size j ++ [((size + j : Nat) : Int)] := by
  unfold news; rw [List.range_succ, List.map_append]; rfl
theorem news_length (size j : Nat) : (news size j).length = j := by simp [news]
def PS.given (P : PS) (d : Int) (gone : List Int) : List Int := P.old d gone ++ news P.size (P.wants d gone - P.usable.length)
def stays (L : List (Nat × Int)) (out : List Int) : List (Nat × Int) := L.filter fun q => !out.contains (q.1 : Int)
def leQ (p q : Nat × Int) : Bool := decide (p.1 ≤ q.1)
def back (gone : List Int) (ver : Int) : List (Nat × Int) := gone.map fun x => (x.toNat, ver)
def PS.after (P : PS) (d : Int) (gone : List Int) (ver : Int) : PS :=
  { P with size := P.size + (P.wants d gone - P.usable.length), free := (stays P.free (P.old d gone) ++ back gone ver).mergeSort leQ }
def PS.commit (P : PS) (d : Int) (gone : List Int) (ver : Int) : List Int × Int × PS :=
  if P.lists d gone < 0 then ([], 171, P) else if P.room - P.lists d gone < d then ([], 170, P) else (P.given d gone, 0, P.after d gone ver)

theorem stays_nil (L : List (Nat × Int)) : stays L [] = L := by unfold stays; rw [List.filter_eq_self]; intro q _; rfl
theorem stays_snoc (L : List (Nat × Int)) (out : List Int) (n : Nat) : (stays L out).filter (fun q => q.1 != n) = stays L (out ++ [(n : Int)]) := by
  unfold stays
  rw [List.filter_filter]
  refine List.filter_congr fun q _ => ?_
  rw [List.contains_append]
  have : ([(n : Int)].contains (q.1 : Int)) = (q.1 == n) := by
    rw [Bool.eq_iff_iff, List.contains_iff_mem, beq_iff_eq]
    simp only [List.mem_singleton]
    omega
  rw [this]
  cases h1 : out.contains (q.1 : Int) <;> cases h2 : (q.1 == n) <;> simp [bne, h2]

section
variable {w w' : World} {pb m1 m2 : Nat} {P : PS}
theorem PoolF.setFree (h : PoolF w pb m1 m2 P) (hc : Chg (fun k => k = m1) w w') {M : DataW Unit} {n : Nat} {L : List (Nat × Int)} (ho : w'.ownsMap Tryz.prog 3 RI m1 n M) (hf : FreeOf M L) : PoolF w' pb m1 m2 { P with free := L } := by
  obtain ⟨M2, a2, b2⟩ := h.pn
  refine ⟨hc.get h.blk (fun e => h.n1 e.symm), ⟨M, ?_, hf⟩, ⟨M2, ownsMap_chg a2 hc (fun e => h.ne e.symm), b2⟩, h.ne, h.n1, h.n2⟩
  show w'.ownsMap Tryz.prog 3 RI m1 L.length M
  rw [← hf.size]; exact ownsMap_tight ho
theorem PoolF.setSize (h : PoolF w pb m1 m2 P) (n : Nat) : PoolF (w.setCell ⟨pb, 0, none⟩ (.int .i64 n)) pb m1 m2 { P with size := n } := by
  have hc : Chg (fun k => k = pb) w (w.setCell ⟨pb, 0, none⟩ (.int .i64 n)) := chg1 _
  obtain ⟨M1, a1, b1⟩ := h.fr
  obtain ⟨M2, a2, b2⟩ := h.pn
  exact ⟨by rw [heap_setCell_same _ h.blk]; rfl, ⟨M1, ownsMap_chg a1 hc h.n1, b1⟩, ⟨M2, ownsMap_chg a2 hc h.n2, b2⟩, h.ne, h.n1, h.n2⟩
end

theorem ownsRow_take {w : World} {a : Option Addr} {u c n : Nat} {xs : List Value} (h : w.ownsRow 0 3 1 (.slice a u c) u xs) (hn : n ≤ u) : w.ownsRow 0 3 1 (.slice a n c) n (xs.take n) := by
  have hl : xs.length = u * 1 := h.1
  refine ⟨by rw [List.length_take]; omega, ?_⟩
  rcases h.2 with ⟨e, h0⟩ | ⟨g, cap, cur, e, h1, h2, h3, h4, h5, h6⟩
  · cases e
    have : n = 0 := by omega
    subst this
    exact .inl ⟨rfl, rfl⟩
  · cases e
    refine .inr ⟨g, c, cur, rfl, h1, h2, by omega, h4, h5, ?_⟩
    have e : cur.toList.take (n * 1) = (cur.toList.take (u * 1)).take n := by rw [List.take_take]; congr 1; omega
    rw [e, h6]
theorem NewI.take {w0 w : World} {a : Option Addr} {u c n : Nat} {zs : List Int} (h : w.ownsRow 0 3 1 (.slice a u c) u (zs.map (Value.int .i64))) (hg : ∀ g, (Value.slice a u c).ownBlock = some g → w0.heap.size ≤ g) (hn : n ≤ u) (hu : zs.length = u) : NewI w0 w (.slice a n c) (zs.take n) := by
  have hl : (zs.take n).length = n := by rw [List.length_take]; omega
  refine ⟨?_, fun g e => hg g (by cases a <;> exact e)⟩
  rw [hl, List.map_take]
  exact ownsRow_take h hn
end Go.Proofs.YtipclbibomemjaaGreatDoor
