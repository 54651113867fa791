/- Walks: a life's turn: its head; the turn in numbers. -/
import Derived.Test.YtipclbibomemjaaN10
import Derived.StillTailTactics
namespace Go.Proofs.Ytipclbibomemjaa
open Go Go.RowKit Go.Maps

def LS.data (S : LS) : LD := ⟨S.P, S.mine, nums S.L, sinces S.L, S.P.pins, S.ver⟩
def LS.pin (S : LS) (x : Int) : LS := { S with P := { S.P with pins := S.P.pins ++ [x], wr := S.P.wr + 1 } }
def LS.unpin (S : LS) (x : Int) : LS := { S with P := { S.P with pins := S.P.pins.erase x, wr := S.P.wr + 1 } }
def LS.next (S : LS) : LS := { S with ver := S.ver + 1 }
def LS.top (S : LS) (t : Turn) : LS := if 0 < t.pin then S.pin t.pin else S
def LS.then (S : LS) (d : Int) (gone : List Int) : LS :=
  { P := S.P.after d gone S.ver, mine := gone.foldl (fun m x => m.erase x) (S.mine ++ S.P.given d gone), L := stays S.L (S.P.given d gone) ++ back gone S.ver, ver := S.ver }
structure Turn.ok (t : Turn) : Prop where
  want : (Lit.int .i64 t.want).wf = true
  pin : (Lit.int .i64 t.pin).wf = true
  unpin : (Lit.int .i64 t.unpin).wf = true

theorem ok_pins {P : PS} (h : P.ok) (pins : List Int) (wr : Nat) : ({ P with pins := pins, wr := wr } : PS).ok := ⟨h.rise, h.lo, h.hi, h.size, h.since⟩
theorem top_facts {S : LS} {n : Nat} (h : S.fit n) (t : Turn) : (S.top t).P.ok ∧ (S.top t).P.pins.length ≤ n + 1 ∧ (S.top t).P.wr ≤ n + n + 1 ∧ (S.top t).ver = S.ver ∧ (S.top t).mine = S.mine ∧ (S.top t).L = S.L ∧ (S.top t).P.size = S.P.size ∧ (S.top t).P.cap = S.P.cap ∧ (S.top t).P.free = S.P.free := by
  unfold LS.top
  have := h.pins
  have := h.wr
  split
  · exact ⟨ok_pins h.pool _ _, by show (S.P.pins ++ [t.pin]).length ≤ n + 1; rw [List.length_append]; simp; omega, by show S.P.wr + 1 ≤ _; omega, rfl, rfl, rfl, rfl, rfl, rfl⟩
  · exact ⟨h.pool, by omega, by omega, rfl, rfl, rfl, rfl, rfl, rfl⟩
theorem turn_fit {S : LS} {n : Nat} (h : S.fit n) (t : Turn) : (((S.top t).unpin t.unpin).next).fit (n + 1) := by
  obtain ⟨a1, a2, a3, a4, a5, a6, a7, a8, a9⟩ := top_facts h t
  refine ⟨ok_pins a1 _ _, ?_, ?_, ?_, ?_, ?_, ?_, ?_, ?_, ?_, ?_⟩
  · show (S.top t).P.cap ≤ 20000; rw [a8]; exact h.cap
  · show (S.top t).P.size ≤ (S.top t).P.cap; rw [a7, a8]; exact h.size
  · exact Nat.le_trans List.length_erase_le a2
  · show (S.top t).P.wr + 1 ≤ _; omega
  · show (S.top t).L.Perm (S.top t).P.free; rw [a6, a9]; exact h.perm
  · show (S.top t).mine.Nodup; rw [a5]; exact h.nodup
  · show ∀ x ∈ (S.top t).mine, 2 ≤ x ∧ x < (S.top t).P.size; rw [a5, a7]; exact h.rng
  · show ∀ x ∈ (S.top t).mine, ∀ q ∈ (S.top t).P.free, (q.1 : Int) ≠ x; rw [a5, a9]; exact h.dis
  · show (S.top t).ver + 1 ≤ n + 1; rw [a4]; have := h.ver; omega
  · show (S.top t).mine.length + (S.top t).L.length + 2 = (S.top t).P.size; rw [a5, a6, a7]; exact h.sum

theorem erases_mem {gone m : List Int} (hm : m.Nodup) (hg : gone.Nodup) (hs : ∀ x ∈ gone, x ∈ m) : (gone.foldl (fun m x => m.erase x) m).Nodup ∧ (∀ x, x ∈ gone.foldl (fun m x => m.erase x) m ↔ x ∈ m ∧ x ∉ gone) ∧ (gone.foldl (fun m x => m.erase x) m).length + gone.length = m.length := by
  induction gone generalizing m with
  | nil => exact ⟨hm, fun x => by simp, by simp⟩
  | cons y l ih =>
    obtain ⟨h1, h2⟩ := List.nodup_cons.1 hg
    have hy : y ∈ m := hs y (by simp)
    obtain ⟨a, b, c⟩ := ih (m := m.erase y) (hm.erase y) h2 (fun x hx => by
      exact (List.mem_erase_of_ne (fun e : x = y => h1 (by rw [← e]; exact hx))).2 (hs x (by simp [hx])))
    refine ⟨a, fun x => ?_, ?_⟩
    · rw [List.foldl_cons, b, hm.mem_erase_iff]
      simp only [List.mem_cons, not_or]
      constructor
      · rintro ⟨⟨e1, e2⟩, e3⟩; exact ⟨e2, e1, e3⟩
      · rintro ⟨e2, e1, e3⟩; exact ⟨⟨e1, e2⟩, e3⟩
    · have := List.length_erase_of_mem hy
      have : 0 < m.length := List.length_pos_of_mem hy
      rw [List.foldl_cons, List.length_cons]
      omega

theorem filter_two (l : List Int) (p : Int → Bool) : (l.filter p).length + (l.filter fun x => !p x).length = l.length := by
  induction l with
  | nil => rfl
  | cons x l ih =>
    cases hp : p x <;> simp [hp] <;> omega
theorem then_fit {S : LS} {n : Nat} (h : S.fit n) {d : Int} {g : Int} (hn : n ≤ 1000000) (hf0 : 0 ≤ S.P.lists d (givesK S.mine g)) (hf1 : d ≤ S.P.room - S.P.lists d (givesK S.mine g)) : (S.then d (givesK S.mine g)).fit n := by
  obtain ⟨hrise, hany, hmem, _⟩ := gone_facts h g
  obtain ⟨hgp, hgperm⟩ := givesK_facts h.nodup g
  generalize hG : givesK S.mine g = gone at *
  have hGv := given_facts h d gone
  have hcap : S.P.cap ≤ 600000 := Nat.le_trans h.cap (by omega)
  have hfit : S.P.fit (n + n) := ⟨h.pool, hcap, h.size, Nat.le_trans h.pins (by omega), h.wr⟩
  have hv : (Lit.int .i64 (S.ver : Int)).wf = true := wfI (by omega) (by have := h.ver; omega)
  have ha := after_fit hfit hv hf0 hf1
  have hgn : gone.Nodup := hgp.imp (fun h => by omega)
  have hnd : (S.mine ++ S.P.given d gone).Nodup := by
    rw [List.nodup_append]
    exact ⟨h.nodup, hGv.rise.imp (fun h => by omega), fun a ha b hb e => hGv.far b hb (e ▸ ha)⟩
  obtain ⟨e1, e2, e3⟩ := erases_mem hnd hgn (fun x hx => by simp [hmem x hx])
  have hst : (stays S.L (S.P.given d gone)).Perm (stays S.P.free (S.P.old d gone)) := by
    rw [← stays_given h.pool]
    exact h.perm.filter _
  have hlen : (S.P.given d gone).length = S.P.wants d gone := by rw [← giv_given, giv_length]
  have hol : (S.P.old d gone).length = min (S.P.wants d gone) S.P.usable.length := by unfold PS.old; rw [List.length_take, nums_length]
  have hsl : (stays S.P.free (S.P.old d gone)).length + (S.P.old d gone).length = S.P.free.length := by
    have hk : ∀ (out : List Int), out.Nodup → (∀ x ∈ out, ∃ q ∈ S.P.free, (q.1 : Int) = x) → (stays S.P.free out).length + out.length = S.P.free.length := by
      intro out ho hin
      have hp : (nums S.P.free).Nodup := by
        unfold nums
        exact (List.pairwise_map.2 (h.pool.rise.imp (fun h => by omega)))
      have h2 : (nums (stays S.P.free out)).Perm ((nums S.P.free).filter fun x => !out.contains x) := by
        unfold nums stays
        rw [List.filter_map]
        exact List.Perm.refl _
      have h3 : ((nums S.P.free).filter fun x => out.contains x).Perm out := by
        refine (List.perm_ext_iff_of_nodup (hp.filter _) ho).2 fun x => ?_
        rw [List.mem_filter, List.contains_iff_mem]
        constructor
        · exact fun h => h.2
        · intro hx
          obtain ⟨q, hq, rfl⟩ := hin x hx
          exact ⟨List.mem_map.2 ⟨q, hq, rfl⟩, hx⟩
      have h4 := filter_two (nums S.P.free) (fun x => out.contains x)
      have h5 := h2.length_eq
      have h6 := h3.length_eq
      rw [nums_length] at h4 h5
      omega
    refine hk _ ((old_pair h.pool _).imp (fun h => by omega)) (fun x hx => ?_)
    have := List.mem_of_mem_take hx
    unfold nums at this
    obtain ⟨q, hq, rfl⟩ := List.mem_map.1 this
    exact ⟨q, (List.mem_filter.1 hq).1, rfl⟩
  have hsz : (S.P.after d gone S.ver).size = S.P.size + (S.P.wants d gone - S.P.usable.length) := rfl
  have hfree : (S.P.after d gone S.ver).free = (stays S.P.free (S.P.old d gone) ++ back gone S.ver).mergeSort leQ := rfl
  refine ⟨ha.ok, h.cap, ha.size, h.pins, h.wr, ?_, e1, fun x hx => ?_, fun x hx q hq e => ?_, h.ver, ?_⟩
  · show (stays S.L (S.P.given d gone) ++ back gone S.ver).Perm (S.P.after d gone S.ver).free
    rw [hfree]
    exact (hst.append_right _).trans (List.mergeSort_perm _ _).symm
  · obtain ⟨hx1, hx2⟩ := (e2 x).1 hx
    show 2 ≤ x ∧ x < ((S.P.after d gone S.ver).size : Int)
    rw [hsz]
    rcases List.mem_append.1 hx1 with e | e
    · have := h.rng x e; omega
    · refine ⟨hGv.lo x e, ?_⟩
      obtain ⟨i, hi⟩ := List.mem_iff_getElem?.1 e
      have hil := (List.getElem?_eq_some_iff.1 hi).1
      rw [hlen] at hil
      rcases Nat.lt_or_ge i S.P.usable.length with h1 | h1
      · obtain ⟨_, q, hq, e3, _⟩ := hGv.old i x hi h1
        have := h.pool.hi q (h.perm.mem_iff.1 hq)
        omega
      · have := (hGv.new i x hi h1).1
        omega
  · obtain ⟨hx1, hx2⟩ := (e2 x).1 hx
    have hq' : q ∈ (S.P.after d gone S.ver).free := hq
    rw [hfree] at hq'
    have hq2 := (List.mergeSort_perm _ leQ).mem_iff.1 hq'
    rcases List.mem_append.1 hq2 with e4 | e4
    · have hqf := (List.mem_filter.1 e4).1
      rcases List.mem_append.1 hx1 with e5 | e5
      · exact h.dis x e5 q hqf e
      · have hc : (S.P.given d gone).contains (q.1 : Int) = true := by rw [List.contains_iff_mem, e]; exact e5
        rw [given_contains h.pool d gone hqf] at hc
        have := (List.mem_filter.1 e4).2
        rw [hc] at this; cases this
    · obtain ⟨y, hy, rfl⟩ := List.mem_map.1 e4
      have hy0 := (h.rng y (hmem y hy)).1
      have e6 : (y.toNat : Int) = x := e
      have e7 : y = x := by omega
      exact hx2 (e7 ▸ hy)
  · show (gone.foldl (fun m x => m.erase x) (S.mine ++ S.P.given d gone)).length + (stays S.L (S.P.given d gone) ++ back gone S.ver).length + 2 = (S.P.after d gone S.ver).size
    rw [hsz, List.length_append, back_length, hst.length_eq]
    rw [List.length_append, hlen] at e3
    have := h.sum
    have := h.perm.length_eq
    omega
end Go.Proofs.Ytipclbibomemjaa
