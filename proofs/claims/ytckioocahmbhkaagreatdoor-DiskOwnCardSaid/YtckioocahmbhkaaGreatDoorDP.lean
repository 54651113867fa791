/- The disks of the law DiskOwn, in numbers. -/
import Derived.Test.YtckioocahmbhkaaGreatDoorW18
namespace Go.Proofs.YtckioocahmbhkaaGreatDoor
open Go Go.RowKit

theorem layAll_length (L : List (List UInt8)) (qs : List (Nat × List UInt8)) : (layAll L qs).length = pagesL qs L.length := by
  induction qs generalizing L with
  | nil => rfl
  | cons q qs ih =>
    show (layAll (layL L q.1 q.2 4096) qs).length = pagesL qs (max L.length (q.1 + 1))
    rw [ih, layL_length]

/-- A disk behind k calls of a script. -/
structure PInv (D : DS) (k : Nat) : Prop where
  cap : D.cap ≤ 524287
  page : ∀ p ∈ D.lasting, p.length = 4096
  data : ∀ q ∈ D.pending, q.2.length = 4096
  no : ∀ q ∈ D.pending, q.1 < 128 + k
  len : D.lasting.length ≤ 128 + k
  wr : D.wr ≤ k
  pn : D.pending.length ≤ k

theorem PInv.ok {D : DS} {k : Nat} (h : PInv D k) (hk : k ≤ 1000) : D.ok := ⟨h.page, h.data, fun q hq => by have := h.no q hq; omega, by have := h.len; omega⟩
theorem PInv.pages {D : DS} {k : Nat} (h : PInv D k) : D.pages ≤ 128 + k := by
  have := pagesL_le D.pending D.lasting.length (127 + k) (by have := h.len; omega) (fun q hq => by have := h.no q hq; omega)
  show pagesL D.pending D.lasting.length ≤ _
  omega
theorem PInv.more {D : DS} {k : Nat} (h : PInv D k) : PInv D (k + 1) :=
  ⟨h.cap, h.page, h.data, fun q hq => by have := h.no q hq; omega, by have := h.len; omega, by have := h.wr; omega, by have := h.pn; omega⟩
theorem PInv.same {D D' : DS} {k : Nat} (h : PInv D k) (h1 : D'.cap = D.cap) (h2 : D'.lasting = D.lasting) (h3 : D'.pending = D.pending) (h4 : D'.wr = D.wr) : PInv D' k :=
  ⟨by rw [h1]; exact h.cap, by rw [h2]; exact h.page, by rw [h3]; exact h.data, by rw [h3]; exact h.no, by rw [h2]; exact h.len, by rw [h4]; exact h.wr, by rw [h3]; exact h.pn⟩
theorem PInv.count {D : DS} {k : Nat} (h : PInv D k) : PInv D.count k := by
  unfold DS.count
  split <;> exact h.same rfl rfl rfl rfl
theorem PInv.read {D : DS} {k : Nat} (h : PInv D k) (i : Int) : PInv (D.read i).2.2 (k + 1) := by
  unfold DS.read
  split
  · exact h.more
  split
  · exact h.more
  · exact (h.same (D' := D.looked) rfl rfl rfl rfl).more
theorem PInv.write {D : DS} {k : Nat} (h : PInv D k) (i : Int) (p : List UInt8) : PInv (D.write i p).2 (k + 1) := by
  have hpg := h.pages
  unfold DS.write
  split
  · exact h.more
  rename_i h1
  split
  · exact h.more
  split
  · exact h.more
  rename_i h3
  split
  · exact h.more
  have hc := h.count
  refine ⟨hc.cap, hc.page, fun q hq => ?_, fun q hq => ?_, by have := hc.len; show D.count.lasting.length ≤ _; omega, by have := h.wr; show D.wr + 1 ≤ _; omega, ?_⟩
  · rcases List.mem_append.1 hq with e | e
    · exact h.data q e
    · simp at e; subst e; simpa using h3
  · rcases List.mem_append.1 hq with e | e
    · have := h.no q e; omega
    · simp at e; subst e; show i.toNat < _; omega
  · show (D.pending ++ [(i.toNat, p)]).length ≤ _
    rw [List.length_append]; have := h.pn; show _ + 1 ≤ _; omega
theorem PInv.sync {D : DS} {k : Nat} (h : PInv D k) (hk : k ≤ 1000) : PInv D.sync.2 (k + 1) := by
  have hok := h.ok hk
  unfold DS.sync
  split
  · exact h.more
  split
  · exact h.count.more
  · have hc := h.count
    refine ⟨hc.cap, (layAll_ok D.lasting D.pending hok.page hok.len hok.data hok.no).1, fun q hq => by simp at hq, fun q hq => by simp at hq, ?_, by have := hc.wr; show D.count.wr ≤ _; omega, by simp⟩
    show (layAll D.lasting D.pending).length ≤ _
    rw [layAll_length]
    have := h.pages
    have e : D.pages = pagesL D.pending D.lasting.length := rfl
    omega
theorem PInv.new {cap : Int} (h : cap ≤ 524287) : PInv (DS.new cap) 0 :=
  ⟨h, fun p hp => by simp [DS.new] at hp, fun q hq => by simp [DS.new] at hq, fun q hq => by simp [DS.new] at hq, by simp [DS.new], Nat.le_refl _, by simp [DS.new]⟩
theorem flatP_length (L : List (List UInt8)) (h : ∀ p ∈ L, p.length = 4096) : L.flatten.length = L.length * 4096 := by
  induction L with
  | nil => rfl
  | cons p L ih => rw [List.flatten_cons, List.length_append, ih (fun q hq => h q (by simp [hq])), h p (by simp), List.length_cons]; omega
end Go.Proofs.YtckioocahmbhkaaGreatDoor
