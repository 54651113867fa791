/- The law DiskPlays, in numbers. -/
import Derived.Test.YtckioocahmbhkaaP8
import Derived.Test.YtckioocahmbhkaaC5
namespace Go.Proofs.Ytckioocahmbhkaa
open Go Go.RowKit

/-- A disk behind k calls of a script. -/
structure PInv (D : DS) (k : Nat) : Prop where
  cap : D.cap ≤ 524287
  page : ∀ p ∈ D.lasting, p.length = 4096
  data : ∀ q ∈ D.pending, q.2.length = 4096
  no : ∀ q ∈ D.pending, q.1 < 128 + k
  len : D.lasting.length ≤ 128 + k
  wr : D.wr ≤ k
  pn : D.pending.length ≤ k

theorem PInv.ok {D : DS} {k : Nat} (h : PInv D k) (hk : k ≤ 1000) : D.ok := ⟨h.page, h.data, fun q hq => by have := h.no q hq; omega, by have := h.len; omega⟩
theorem PInv.pages {D : DS} {k : Nat} (h : PInv D k) : D.pages ≤ 128 + k := by
  have := pagesL_le D.pending D.lasting.length (127 + k) (by have := h.len; omega) (fun q hq => by have := h.no q hq; omega)
  show pagesL D.pending D.lasting.length ≤ _
  omega
theorem PInv.more {D : DS} {k : Nat} (h : PInv D k) : PInv D (k + 1) :=
  ⟨h.cap, h.page, h.data, fun q hq => by have := h.no q hq; omega, by have := h.len; omega, by have := h.wr; omega, by have := h.pn; omega⟩
theorem PInv.same {D D' : DS} {k : Nat} (h : PInv D k) (h1 : D'.cap = D.cap) (h2 : D'.lasting = D.lasting) (h3 : D'.pending = D.pending) (h4 : D'.wr = D.wr) : PInv D' k :=
  ⟨by rw [h1]; exact h.cap, by rw [h2]; exact h.page, by rw [h3]; exact h.data, by rw [h3]; exact h.no, by rw [h2]; exact h.len, by rw [h4]; exact h.wr, by rw [h3]; exact h.pn⟩
theorem PInv.count {D : DS} {k : Nat} (h : PInv D k) : PInv D.count k := by
  unfold DS.count
  split <;> exact h.same rfl rfl rfl rfl
theorem PInv.read {D : DS} {k : Nat} (h : PInv D k) (i : Int) : PInv (D.read i).2.2 (k + 1) := by
  unfold DS.read
  split
  · exact h.more
  split
  · exact h.more
  · exact (h.same (D' := D.looked) rfl rfl rfl rfl).more
theorem PInv.arm {D : DS} {k : Nat} (h : PInv D k) (n : Int) : PInv (D.arm n).2 (k + 1) := by
  unfold DS.arm
  split
  · exact h.more
  split
  · exact h.more
  · exact (h.same (D' := { D with fuse := n }) rfl rfl rfl rfl).more
theorem PInv.write {D : DS} {k : Nat} (h : PInv D k) (i : Int) (p : List UInt8) : PInv (D.write i p).2 (k + 1) := by
  have hpg := h.pages
  unfold DS.write
  split
  · exact h.more
  rename_i h1
  split
  · exact h.more
  split
  · exact h.more
  rename_i h3
  split
  · exact h.more
  have hc := h.count
  refine ⟨hc.cap, hc.page, fun q hq => ?_, fun q hq => ?_, by have := hc.len; show D.count.lasting.length ≤ _; omega, by have := h.wr; show D.wr + 1 ≤ _; omega, ?_⟩
  · rcases List.mem_append.1 hq with e | e
    · exact h.data q e
    · simp at e; subst e; simpa using h3
  · rcases List.mem_append.1 hq with e | e
    · have := h.no q e; omega
    · simp at e; subst e; show i.toNat < _; omega
  · show (D.pending ++ [(i.toNat, p)]).length ≤ _
    rw [List.length_append]; have := h.pn; show _ + 1 ≤ _; omega
theorem PInv.sync {D : DS} {k : Nat} (h : PInv D k) (hk : k ≤ 1000) : PInv D.sync.2 (k + 1) := by
  have hok := h.ok hk
  unfold DS.sync
  split
  · exact h.more
  split
  · exact h.count.more
  · have hc := h.count
    refine ⟨hc.cap, (layAll_ok D.lasting D.pending hok.page hok.len hok.data hok.no).1, fun q hq => by simp at hq, fun q hq => by simp at hq, ?_, by have := hc.wr; show D.count.wr ≤ _; omega, by simp⟩
    show (layAll D.lasting D.pending).length ≤ _
    rw [layAll_length]
    have := h.pages
    have e : D.pages = pagesL D.pending D.lasting.length := rfl
    omega
theorem PInv.crash {D : DS} {k : Nat} (h : PInv D k) (hk : k ≤ 1000) (fs : List (Int × Int)) : PInv (D.crash fs) (k + 1) := by
  have hok := h.ok hk
  refine ⟨h.cap, (crashAll_ok D.lasting D.pending fs hok.page hok.len hok.data hok.no).1, fun q hq => by simp [DS.crash] at hq, fun q hq => by simp [DS.crash] at hq, ?_, by have := h.wr; show D.wr ≤ _; omega, by simp [DS.crash]⟩
  have := crashAll_len D.lasting D.pending fs (128 + k) h.len h.no
  show (crashAll D.lasting D.pending fs).length ≤ _
  omega
theorem PInv.rot {D : DS} {k : Nat} (h : PInv D k) (i at' x : Int) : PInv (D.rot i at' x).2 (k + 1) := by
  unfold DS.rot
  split
  · exact h.more
  rename_i h1
  split
  · exact h.more
  refine PInv.more ⟨h.cap, fun p hp => ?_, fun q hq => ?_, fun q hq => ?_, ?_, h.wr, ?_⟩
  · rcases List.mem_or_eq_of_mem_set hp with e | e
    · exact h.page p e
    · subst e
      rw [turn_length]
      have hi : i.toNat < D.lasting.length := by omega
      rw [List.getD_eq_getElem?_getD, List.getElem?_eq_getElem hi]
      exact h.page _ (List.getElem_mem hi)
  · obtain ⟨q', hq', rfl⟩ := List.mem_map.1 hq
    unfold turnQ; split
    · simp only [turn_length]; exact h.data q' hq'
    · exact h.data q' hq'
  · obtain ⟨q', hq', rfl⟩ := List.mem_map.1 hq
    unfold turnQ; split
    · exact h.no q' hq'
    · exact h.no q' hq'
  · show (D.lasting.set _ _).length ≤ _; rw [List.length_set]; exact h.len
  · show (D.pending.map _).length ≤ _; rw [List.length_map]; exact h.pn
theorem PInv.image {cap : Int} {bs : List UInt8} (h1 : cap ≤ 524287) (h2 : bs.length ≤ 524288) : PInv (DS.image cap bs) 0 := by
  have hok := DS.image_ok (cap := cap) (bs := bs) (by omega)
  refine ⟨h1, hok.page, fun q hq => by simp [DS.image, DS.new] at hq, fun q hq => by simp [DS.image, DS.new] at hq, ?_, Nat.le_refl _, by simp [DS.image, DS.new]⟩
  show (chunks bs).length ≤ _
  rw [chunks_length]; omega
end Go.Proofs.Ytckioocahmbhkaa
