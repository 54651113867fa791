/- The plain law of PoolNever. -/
import Derived.Test.YtipclbibomemjaaV14
namespace Go.Proofs.Ytipclbibomemjaa
open Go Go.RowKit Go.Maps

/-- x laid into a list that rises. -/
def insK (x : Int) (l : List Int) : List Int := l.takeWhile (fun y => decide (y < x)) ++ x :: l.dropWhile (fun y => decide (y < x))
def givesK (mine : List Int) (n : Int) : List Int := (mine.take n.toNat).foldl (fun l x => insK x l) []

theorem insK_perm (x : Int) (l : List Int) : (insK x l).Perm (x :: l) := by
  unfold insK
  refine List.perm_middle.trans ?_
  rw [List.takeWhile_append_dropWhile]
theorem insK_rise {x : Int} {l : List Int} (h : l.Pairwise fun a b => a < b) (hx : x ∉ l) : (insK x l).Pairwise fun a b => a < b := by
  unfold insK
  have h1 : ∀ a ∈ l.takeWhile (fun y => decide (y < x)), a < x := fun a ha => by
    have := List.all_eq_true.1 (List.all_takeWhile (l := l) (p := fun y => decide (y < x))) a ha
    simpa using this
  have h2 : ∀ a ∈ l.dropWhile (fun y => decide (y < x)), x < a := by
    intro a ha
    have hp : (l.dropWhile (fun y => decide (y < x))).Pairwise fun a b => a < b := h.sublist (List.dropWhile_sublist _)
    cases hd : l.dropWhile (fun y => decide (y < x)) with
    | nil => rw [hd] at ha; cases ha
    | cons b r =>
      have hb : ¬ b < x := by
        have := List.head_dropWhile_not (fun y => decide (y < x)) (l := l) (by rw [hd]; simp)
        simp only [hd, List.head_cons, decide_eq_false_iff_not] at this
        exact this
      have hbm : b ∈ l := (List.dropWhile_sublist _).subset (by rw [hd]; simp)
      have hbx : b ≠ x := fun e => hx (e ▸ hbm)
      rw [hd] at ha hp
      rw [List.pairwise_cons] at hp
      rcases List.mem_cons.1 ha with rfl | e
      · omega
      · have := hp.1 a e; omega
  rw [List.pairwise_append, List.pairwise_cons]
  refine ⟨h.sublist (List.takeWhile_sublist _), ⟨h2, h.sublist (List.dropWhile_sublist _)⟩, fun a ha b hb => ?_⟩
  rcases List.mem_cons.1 hb with rfl | e
  · exact h1 a ha
  · have := h1 a ha; have := h2 b e; omega

theorem gives_inv (zs : List Int) : ∀ l : List Int, l.Pairwise (fun a b => a < b) → (l ++ zs).Nodup → (zs.foldl (fun l x => insK x l) l).Pairwise (fun a b => a < b) ∧ (zs.foldl (fun l x => insK x l) l).Perm (l ++ zs) := by
  induction zs with
  | nil => intro l h1 _; exact ⟨h1, by simp⟩
  | cons x zs ih =>
    intro l h1 h2
    have hp : (insK x l ++ zs).Perm (l ++ x :: zs) := ((insK_perm x l).append_right zs).trans (List.perm_middle.symm)
    have hx : x ∉ l := fun e => by
      rw [List.nodup_append] at h2
      exact h2.2.2 x e x (by simp) rfl
    obtain ⟨h3, h4⟩ := ih (insK x l) (insK_rise h1 hx) (hp.nodup_iff.2 h2)
    exact ⟨h3, h4.trans hp⟩
theorem givesK_facts {mine : List Int} (h : mine.Nodup) (n : Int) : (givesK mine n).Pairwise (fun a b => a < b) ∧ (givesK mine n).Perm (mine.take n.toNat) := by
  have := gives_inv (mine.take n.toNat) [] List.Pairwise.nil (by rw [List.nil_append]; exact h.sublist (List.take_sublist _ _))
  rw [List.nil_append] at this
  exact this

/-- A life, as data: the pool, the owner's numbers, the free ones in the order in which they came, the version. -/
structure LS where
  P : PS
  mine : List Int
  L : List (Nat × Int)
  ver : Nat
def sinces (L : List (Nat × Int)) : List Int := L.map fun q => q.2

structure LS.fit (S : LS) (n : Nat) : Prop where
  pool : S.P.ok
  cap : S.P.cap ≤ 20000
  size : S.P.size ≤ S.P.cap
  pins : S.P.pins.length ≤ n
  wr : S.P.wr ≤ n + n
  perm : S.L.Perm S.P.free
  nodup : S.mine.Nodup
  rng : ∀ x ∈ S.mine, 2 ≤ x ∧ x < S.P.size
  dis : ∀ x ∈ S.mine, ∀ q ∈ S.P.free, (q.1 : Int) ≠ x
  ver : S.ver ≤ n
  sum : S.mine.length + S.L.length + 2 = S.P.size

/-- What a commit gives, looked at by the owner. -/
structure Gives (P : PS) (mine : List Int) (L : List (Nat × Int)) (gone : List Int) (d : Int) : Prop where
  rise : (P.given d gone).Pairwise fun a b => a < b
  old : ∀ i x, (P.given d gone)[i]? = some x → i < P.usable.length → (nums P.usable)[i]? = some x ∧ ∃ q ∈ L, (q.1 : Int) = x ∧ goodP P.pins q = true
  new : ∀ i x, (P.given d gone)[i]? = some x → P.usable.length ≤ i → x = ((P.size + (i - P.usable.length) : Nat) : Int) ∧ ∀ q ∈ L, (q.1 : Int) ≠ x
  lo : ∀ x ∈ P.given d gone, 2 ≤ x
  far : ∀ x ∈ P.given d gone, x ∉ mine

theorem old_pair {P : PS} (hok : P.ok) (k : Nat) : ((nums P.usable).take k).Pairwise fun a b => a < b := by
  have : (nums P.usable).Pairwise fun a b => a < b := by
    unfold nums
    rw [List.pairwise_map]
    exact (hok.rise.filter _).imp (fun h => by omega)
  exact this.sublist (List.take_sublist _ _)
theorem news_at {size j i : Nat} {x : Int} (h : (news size j)[i]? = some x) : x = ((size + i : Nat) : Int) := by
  unfold news at h
  rw [List.getElem?_map] at h
  have hi : i < j := by
    rcases Nat.lt_or_ge i j with h1 | h1
    · exact h1
    · rw [List.getElem?_eq_none_iff.2 (by simp; omega)] at h; cases h
  rw [List.getElem?_range hi] at h
  cases h; rfl
theorem news_mem {size j : Nat} {x : Int} (h : x ∈ news size j) : (size : Int) ≤ x := by
  unfold news at h
  obtain ⟨i, _, rfl⟩ := List.mem_map.1 h
  omega
theorem given_facts {S : LS} {n : Nat} (h : S.fit n) (d : Int) (gone : List Int) : Gives S.P S.mine S.L gone d := by
  have hol : ∀ x ∈ S.P.old d gone, ∃ q ∈ S.P.free, (q.1 : Int) = x ∧ goodP S.P.pins q = true := fun x hx => by
    have := List.mem_of_mem_take hx
    unfold nums at this
    obtain ⟨q, hq, rfl⟩ := List.mem_map.1 this
    obtain ⟨h1, h2⟩ := List.mem_filter.1 hq
    exact ⟨q, h1, rfl, h2⟩
  refine ⟨?_, fun i x hi hu => ?_, fun i x hi hu => ?_, fun x hx => ?_, fun x hx => ?_⟩
  · unfold PS.given
    rw [List.pairwise_append]
    refine ⟨old_pair h.pool _, ?_, fun a ha b hb => ?_⟩
    · unfold news
      rw [List.pairwise_map]
      exact List.pairwise_lt_range.imp (fun h => by omega)
    · obtain ⟨q, hq, rfl, _⟩ := hol a ha
      have := news_mem hb
      have := h.pool.hi q hq
      omega
  · have hx : (S.P.old d gone)[i]? = some x := by
      unfold PS.given at hi
      rcases Nat.lt_or_ge i (S.P.old d gone).length with h1 | h1
      · rwa [List.getElem?_append_left h1] at hi
      · rw [List.getElem?_append_right h1] at hi
        have h2 := (List.getElem?_eq_some_iff.1 hi).1
        rw [news_length] at h2
        have h3 : (S.P.old d gone).length = min (S.P.wants d gone) S.P.usable.length := by unfold PS.old; rw [List.length_take, nums_length]
        omega
    have hm : (nums S.P.usable)[i]? = some x := by
      unfold PS.old at hx
      rw [List.getElem?_take] at hx
      split at hx
      · exact hx
      · cases hx
    obtain ⟨q, hq, e, hg⟩ := hol x (List.mem_of_getElem? hx)
    exact ⟨hm, q, h.perm.mem_iff.2 hq, e, hg⟩
  · have h3 : (S.P.old d gone).length = min (S.P.wants d gone) S.P.usable.length := by unfold PS.old; rw [List.length_take, nums_length]
    unfold PS.given at hi
    have hlen := (List.getElem?_eq_some_iff.1 hi).1
    rw [List.length_append, news_length] at hlen
    rw [List.getElem?_append_right (by omega)] at hi
    have h4 := news_at hi
    have h5 : (S.P.old d gone).length = S.P.usable.length := by omega
    rw [h5] at h4
    refine ⟨h4, fun q hq e => ?_⟩
    have := h.pool.hi q (h.perm.mem_iff.1 hq)
    omega
  · unfold PS.given at hx
    rcases List.mem_append.1 hx with e | e
    · obtain ⟨q, hq, rfl, _⟩ := hol x e
      have := h.pool.lo q hq; omega
    · have := news_mem e
      have := h.sum
      omega
  · intro hm
    unfold PS.given at hx
    rcases List.mem_append.1 hx with e | e
    · obtain ⟨q, hq, e2, _⟩ := hol x e
      exact h.dis x hm q hq e2
    · have := news_mem e
      have := (h.rng x hm).2
      omega

theorem gone_facts {S : LS} {n : Nat} (h : S.fit n) (g : Int) : riseK S.P.size 1 (givesK S.mine g) = true ∧ (givesK S.mine g).any S.P.has = false ∧ (∀ x ∈ givesK S.mine g, x ∈ S.mine) ∧ (givesK S.mine g).length ≤ S.mine.length := by
  obtain ⟨h1, h2⟩ := givesK_facts h.nodup g
  have hm : ∀ x ∈ givesK S.mine g, x ∈ S.mine := fun x hx => List.mem_of_mem_take (h2.mem_iff.1 hx)
  refine ⟨(riseK_iff _ _ _).2 ⟨h1, fun x hx => by have := h.rng x (hm x hx); omega⟩, ?_, hm, ?_⟩
  · rw [List.any_eq_false]
    intro x hx e
    unfold PS.has at e
    rw [List.any_eq_true] at e
    obtain ⟨q, hq, e⟩ := e
    exact h.dis x (hm x hx) q hq (by rwa [beq_iff_eq] at e)
  · rw [h2.length_eq, List.length_take]; exact Nat.min_le_right _ _
end Go.Proofs.Ytipclbibomemjaa
