/- The law DiskCrashes, in numbers. -/
import Derived.Test.YtckioocahmbhkaaC4
namespace Go.Proofs.Ytckioocahmbhkaa
open Go Go.RowKit

/-- The writes that were done: pages of one byte. -/
def doneP (dn : List (Nat × UInt8)) : List (Nat × List UInt8) := dn.map fun q => (q.1, rep 4096 q.2)
theorem doneP_snoc (dn : List (Nat × UInt8)) (q : Nat × UInt8) : doneP (dn ++ [q]) = doneP dn ++ [(q.1, rep 4096 q.2)] := by simp [doneP]
theorem doneP_length (dn : List (Nat × UInt8)) : (doneP dn).length = dn.length := by simp [doneP]
theorem doneP_get {dn : List (Nat × UInt8)} {k : Nat} {q : Nat × UInt8} (h : dn[k]? = some q) : (doneP dn)[k]? = some (q.1, rep 4096 q.2) := by simp [doneP, h]

/-- The disk while writes pend: L0 lasts, dn pends, pg pages. -/
structure CInv (D : DS) (L0 : List (List UInt8)) (dn : List (Nat × UInt8)) (pg k : Nat) : Prop where
  cap : D.cap = 60
  ok : D.ok
  off : D.off = false
  fuse : D.fuse = 0
  lasting : D.lasting = L0
  pending : D.pending = doneP dn
  pages : D.pages = pg
  few : pg ≤ 20 + k
  no : ∀ q ∈ dn, q.1 < pg
  len : L0.length ≤ pg
  wr : D.wr ≤ 20 + k
  pn : dn.length ≤ k

theorem C_start {D : DS} {L : List (List UInt8)} (h : LInv D 60 20 L) (hl : L.length ≤ 20) : ∃ D', D.sync = (0, D') ∧ CInv D' L [] L.length 0 := by
  obtain ⟨D', h1, h2, h3, h4⟩ := L_sync h
  refine ⟨D', h1, h2.cap, h2.ok, h2.off, h2.fuse, h4, h3, h2.pages, by omega, fun q hq => by simp at hq, Nat.le_refl _, by have := h2.wr; omega, by simp⟩

theorem C_refuse {D : DS} {L0 : List (List UInt8)} {dn : List (Nat × UInt8)} {pg k : Nat} (h : CInv D L0 dn pg k) (i : Int) (p : List UInt8) (hn : i < 0 ∨ (pg : Int) < i) : D.write i p = (121, D) := by
  have := h.pages
  unfold DS.write
  rw [if_pos (by omega)]

theorem C_more {D : DS} {L0 : List (List UInt8)} {dn : List (Nat × UInt8)} {pg k : Nat} (h : CInv D L0 dn pg k) : CInv D L0 dn pg (k + 1) :=
  ⟨h.cap, h.ok, h.off, h.fuse, h.lasting, h.pending, h.pages, by have := h.few; omega, h.no, h.len, by have := h.wr; omega, by have := h.pn; omega⟩

theorem C_write {D : DS} {L0 : List (List UInt8)} {dn : List (Nat × UInt8)} {pg k : Nat} (h : CInv D L0 dn pg k) (hk : k ≤ 20) (i : Nat) (x : UInt8) (hi : i ≤ pg) :
    D.write i (rep 4096 x) = (0, D.put i (rep 4096 x)) ∧ CInv (D.put i (rep 4096 x)) L0 (dn ++ [(i, x)]) (max pg (i + 1)) (k + 1) := by
  have hc := L_count h.fuse
  have hcap := h.cap
  have hpg := h.pages
  have hfew := h.few
  have hco : D.count.off = false := by rw [hc]; exact h.off
  have hp : (rep 4096 x).length = 4096 := rep_length _ _
  refine ⟨?_, ?_, ⟨?_, ?_, ?_, ?_⟩, ?_, ?_, ?_, ?_, ?_, ?_, ?_, ?_, ?_, ?_⟩
  · unfold DS.write
    rw [if_neg (by omega), if_neg (by omega), if_neg (by omega), h.off, hco]; rfl
  · unfold DS.put; rw [hc]; exact h.cap
  · unfold DS.put; rw [hc]; exact h.ok.page
  · unfold DS.put; intro q hq
    rcases List.mem_append.1 hq with e1 | e1
    · exact h.ok.data q e1
    · simp at e1; subst e1; exact hp
  · unfold DS.put; intro q hq
    rcases List.mem_append.1 hq with e1 | e1
    · exact h.ok.no q e1
    · simp at e1; subst e1; show i < 524287; omega
  · unfold DS.put; rw [hc]; exact h.ok.len
  · unfold DS.put; rw [hc]; exact h.off
  · unfold DS.put; rw [hc]; exact h.fuse
  · unfold DS.put; rw [hc]; exact h.lasting
  · show D.pending ++ [(i, rep 4096 x)] = _; rw [h.pending, doneP_snoc]
  · rw [pages_put, hpg]
  · omega
  · intro q hq
    rcases List.mem_append.1 hq with e1 | e1
    · have := h.no q e1; omega
    · simp at e1; subst e1; show i < _; omega
  · have := h.len; omega
  · show D.wr + 1 ≤ _; have := h.wr; omega
  · have := h.pn; simp; omega

/-- What the law's own book becomes. -/
def bookF (L : List (List UInt8)) (dn : List (Nat × UInt8)) (fs : List (Int × Int)) : List (List UInt8) := crashAll L (doneP dn) fs

theorem fateL_len {L : List (List UInt8)} {q : Nat × List UInt8} {f : Int × Int} {n : Nat} (hl : L.length ≤ n) (hq : q.1 < n) : (fateL L q f).length ≤ n := by
  unfold fateL
  split
  · rw [layL_length]; omega
  · split
    · rw [layL_length]; omega
    · exact hl

theorem crashAll_len (L : List (List UInt8)) (qs : List (Nat × List UInt8)) (fs : List (Int × Int)) (n : Nat) (hl : L.length ≤ n) (hq : ∀ q ∈ qs, q.1 < n) : (crashAll L qs fs).length ≤ n := by
  unfold crashAll
  have : ∀ (zs : List ((Nat × List UInt8) × (Int × Int))) (L : List (List UInt8)), L.length ≤ n → (∀ z ∈ zs, z.1.1 < n) → (zs.foldl (fun L x => fateL L x.1 x.2) L).length ≤ n := by
    intro zs
    induction zs with
    | nil => intro L h _; exact h
    | cons z zs ih => intro L h h2; exact ih _ (fateL_len h (h2 z (by simp))) (fun z' h' => h2 z' (by simp [h']))
  refine this _ L hl (fun z hz => hq _ (List.of_mem_zip hz).1)

/-- Behind the crash. -/
theorem C_crash {D : DS} {L0 : List (List UInt8)} {dn : List (Nat × UInt8)} {pg k : Nat} (h : CInv D L0 dn pg k) (hk : k ≤ 20) (fs : List (Int × Int)) :
    ∃ D', D.crash fs = D' ∧ D'.lasting = bookF L0 dn fs ∧ D'.pending = [] ∧ D'.ok ∧ D'.off = false ∧ D'.pages = (bookF L0 dn fs).length ∧ (bookF L0 dn fs).length ≤ 40 := by
  have h1 : ∀ q ∈ doneP dn, q.1 < pg := by
    intro q hq
    obtain ⟨q', hq', rfl⟩ := List.mem_map.1 hq
    exact h.no q' hq'
  have hlen : (bookF L0 dn fs).length ≤ pg := crashAll_len L0 (doneP dn) fs pg h.len h1
  have hok := crashAll_ok D.lasting D.pending fs h.ok.page h.ok.len h.ok.data h.ok.no
  rw [h.lasting, h.pending] at hok
  refine ⟨_, rfl, ?_, rfl, ⟨?_, fun q hq => by simp [DS.crash] at hq, fun q hq => by simp [DS.crash] at hq, ?_⟩, rfl, ?_, by have := h.few; omega⟩
  · show crashAll D.lasting D.pending fs = _; rw [h.lasting, h.pending]; rfl
  · show ∀ p ∈ crashAll D.lasting D.pending fs, p.length = 4096; rw [h.lasting, h.pending]; exact hok.1
  · show (crashAll D.lasting D.pending fs).length ≤ _; rw [h.lasting, h.pending]; exact hok.2
  · show (crashAll D.lasting D.pending fs).length = _; rw [h.lasting, h.pending]; rfl

/-- A file of whole pages, cut. -/
theorem chunks_flat (L : List (List UInt8)) (h : ∀ p ∈ L, p.length = 4096) : chunks L.flatten = L := by
  have hl : L.flatten.length = L.length * 4096 := flatten_len L h
  have hlen : (chunks L.flatten).length = L.length := by rw [chunks_length, hl]; omega
  apply List.ext_getElem hlen
  intro k h1 h2
  have e1 : (chunks L.flatten)[k]? = some ((L.flatten.drop (k * 4096)).take 4096) := chunks_get _ _ (by rw [hl]; omega)
  rw [List.getElem?_eq_getElem h1, Option.some.injEq] at e1
  rw [e1]
  clear e1 hlen h1 hl
  induction L generalizing k with
  | nil => simp at h2
  | cons p L ih =>
    have hp : p.length = 4096 := h p (by simp)
    cases k with
    | zero => simp [List.take_append, hp]
    | succ k =>
      rw [List.flatten_cons, List.drop_append, List.drop_eq_nil_of_le (by omega), List.nil_append, hp, show (k + 1) * 4096 - 4096 = k * 4096 by omega]
      exact ih (fun q hq => h q (by simp [hq])) k (by simpa using h2)

end Go.Proofs.Ytckioocahmbhkaa
