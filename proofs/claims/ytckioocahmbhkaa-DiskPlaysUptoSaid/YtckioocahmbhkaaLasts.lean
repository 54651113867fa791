/- The law DiskLasts, in numbers; what pages a disk has. -/
import Derived.Test.YtckioocahmbhkaaArms
namespace Go.Proofs.Ytckioocahmbhkaa
open Go Go.RowKit

theorem pagesL_max (qs : List (Nat × List UInt8)) (n m : Nat) : pagesL qs (max n m) = max (pagesL qs n) m := by
  induction qs generalizing n m with
  | nil => rfl
  | cons q qs ih =>
    show pagesL qs (max (max n m) (q.1 + 1)) = max (pagesL qs (max n (q.1 + 1))) m
    rw [ih, ih, ih]; omega

theorem pages_put (D : DS) (i : Nat) (p : List UInt8) : (D.put i p).pages = max D.pages (i + 1) := by
  show (D.pending ++ [(i, p)]).foldl _ _ = _
  rw [List.foldl_append]; rfl

theorem lastOf_cons (q : Nat × List UInt8) (qs : List (Nat × List UInt8)) (j : Int) : lastOf (q :: qs) j = match lastOf qs j with | some p => some p | none => if (q.1 : Int) = j then some q.2 else none := by
  unfold lastOf
  rw [List.reverse_cons, List.find?_append]
  cases h : qs.reverse.find? fun q => (q.1 : Int) == j with
  | some x => rfl
  | none =>
    by_cases e : (q.1 : Int) = j
    · simp [e]
    · simp [e]

theorem layL_getD (L : List (List UInt8)) (i : Nat) (p : List UInt8) (hp : p.length = 4096) (hL : ∀ x ∈ L, x.length = 4096) (j : Nat) : (layL L i p 4096).getD j zpage = if j = i then p else L.getD j zpage := by
  have hz : ∀ x ∈ L ++ rep (i + 1 - L.length) zpage, x.length = 4096 := fun x hx => by
    rcases List.mem_append.1 hx with e | e
    · exact hL _ e
    · simp only [rep, List.mem_replicate] at e; rw [e.2, zpage_length]
  have hlt : i < (L ++ rep (i + 1 - L.length) zpage).length := by rw [List.length_append, rep_length]; omega
  unfold layL
  by_cases e : j = i
  · subst e
    rw [if_pos rfl, List.getD_eq_getElem?_getD, List.getElem?_set_self hlt, Option.getD_some, List.take_of_length_le (by omega), List.drop_eq_nil_of_le, List.append_nil]
    rw [List.getD_eq_getElem?_getD, List.getElem?_eq_getElem hlt, Option.getD_some, hz _ (List.getElem_mem hlt)]
    omega
  · rw [if_neg e, List.getD_eq_getElem?_getD, List.getElem?_set_ne (Ne.symm e), List.getD_eq_getElem?_getD]
    by_cases hj : j < L.length
    · rw [List.getElem?_append_left hj]
    · rw [List.getElem?_append_right (by omega), List.getElem?_eq_none (l := L) (by omega)]
      unfold rep
      rw [List.getElem?_replicate]
      split <;> rfl

theorem layAll_getD (L : List (List UInt8)) (qs : List (Nat × List UInt8)) (hL : ∀ x ∈ L, x.length = 4096) (hq : ∀ q ∈ qs, q.2.length = 4096) (j : Nat) :
    (layAll L qs).getD j zpage = match lastOf qs j with | some p => p | none => L.getD j zpage := by
  induction qs generalizing L with
  | nil => rfl
  | cons q qs ih =>
    show (layAll (layL L q.1 q.2 4096) qs).getD j zpage = _
    rw [ih (layL L q.1 q.2 4096) (layL_page hL (hq q (by simp)) (by omega)) (fun q' h' => hq q' (by simp [h'])), lastOf_cons]
    cases h : lastOf qs j with
    | some p => rfl
    | none =>
      show (layL L q.1 q.2 4096).getD j zpage = _
      rw [layL_getD _ _ _ (hq q (by simp)) hL]
      by_cases e : j = q.1
      · subst e; simp
      · rw [if_neg e, if_neg (by omega)]

theorem layAll_length (L : List (List UInt8)) (qs : List (Nat × List UInt8)) : (layAll L qs).length = pagesL qs L.length := by
  induction qs generalizing L with
  | nil => rfl
  | cons q qs ih =>
    show (layAll (layL L q.1 q.2 4096) qs).length = pagesL qs (max L.length (q.1 + 1))
    rw [ih, layL_length]

/-- The disk shows the pages ps, the power on for good. -/
structure LInv (D : DS) (cap : Int) (n : Nat) (ps : List (List UInt8)) : Prop where
  cap : D.cap = cap
  ok : D.ok
  off : D.off = false
  fuse : D.fuse = 0
  pages : D.pages = ps.length
  page : ∀ (j : Nat) (p : List UInt8), ps[j]? = some p → D.page j = p
  whole : ∀ p ∈ ps, p.length = 4096
  wr : D.wr ≤ n
  pn : D.pending.length ≤ n

theorem L_count {D : DS} (h : D.fuse = 0) : D.count = { D with done := wrap64 (D.done + 1) } := DS.count_neg (by omega)

theorem L_write {D : DS} {cap : Int} {n : Nat} {ps : List (List UInt8)} (h : LInv D cap n ps) (i : Nat) (p : List UInt8) (hp : p.length = 4096) (h1 : i ≤ ps.length) (h2 : (i : Int) < cap) (h3 : cap ≤ 524287) :
    D.write i p = (0, D.put i p) ∧ LInv (D.put i p) cap (n + 1) (if i = ps.length then ps ++ [p] else ps.set i p) := by
  have hc := L_count h.fuse
  have hcap := h.cap
  have hpg := h.pages
  have hco : D.count.off = false := by rw [hc]; exact h.off
  refine ⟨?_, ?_, ⟨?_, ?_, ?_, ?_⟩, ?_, ?_, ?_, ?_, ?_, ?_, ?_⟩
  · unfold DS.write
    rw [if_neg (by omega), if_neg (by omega), if_neg (by omega), h.off, hco]; rfl
  · unfold DS.put; rw [hc]; exact h.cap
  · unfold DS.put; rw [hc]; exact h.ok.page
  · unfold DS.put; intro q hq
    rcases List.mem_append.1 hq with e1 | e1
    · exact h.ok.data q e1
    · simp at e1; subst e1; exact hp
  · unfold DS.put; intro q hq
    rcases List.mem_append.1 hq with e1 | e1
    · exact h.ok.no q e1
    · simp at e1; subst e1; show i < 524287; omega
  · unfold DS.put; rw [hc]; exact h.ok.len
  · unfold DS.put; rw [hc]; exact h.off
  · unfold DS.put; rw [hc]; exact h.fuse
  · rw [pages_put, hpg]
    split
    · rw [List.length_append]; simp; omega
    · rw [List.length_set]; omega
  · intro j q hj
    have e : (D.put i p).page j = if j = i then p else D.page j := by
      unfold DS.page DS.put
      show (match lastOf (D.pending ++ [(i, p)]) j with | some p => p | none => D.count.lasting.getD j zpage) = _
      rw [lastOf_snoc, hc]
      by_cases e : j = i
      · subst e; simp
      · rw [if_neg (by omega), if_neg e]; rfl
    rw [e]
    by_cases e2 : j = i
    · subst e2
      rw [if_pos rfl]
      split at hj
      · rename_i e3; rw [e3, List.getElem?_append_right (Nat.le_refl _)] at hj; simp at hj; exact hj
      · rw [List.getElem?_set_self (by omega)] at hj; cases hj; rfl
    · rw [if_neg e2]
      apply h.page
      split at hj
      · rename_i e3
        have hlt := (List.getElem?_eq_some_iff.1 hj).1
        simp at hlt
        rw [List.getElem?_append_left (by omega)] at hj; exact hj
      · rw [List.getElem?_set_ne (Ne.symm e2)] at hj; exact hj
  · intro x hx
    split at hx
    · rcases List.mem_append.1 hx with e | e
      · exact h.whole x e
      · simp at e; subst e; exact hp
    · rcases List.mem_or_eq_of_mem_set hx with e | e
      · exact h.whole x e
      · subst e; exact hp
  · show D.wr + 1 ≤ _; have := h.wr; omega
  · show (D.pending ++ [(i, p)]).length ≤ _; rw [List.length_append]; have := h.pn; simp; omega

theorem L_refuse {D : DS} {cap : Int} {n : Nat} {ps : List (List UInt8)} (h : LInv D cap n ps) (i : Int) (p : List UInt8) (hn : ¬ (0 ≤ i ∧ i ≤ ps.length ∧ i < cap)) :
    ∃ c, D.write i p = (c, D) ∧ c ≠ 0 := by
  have hpg := h.pages
  have hcap := h.cap
  unfold DS.write
  by_cases h1 : i < 0 ∨ (D.pages : Int) < i
  · exact ⟨121, by rw [if_pos h1], by omega⟩
  · exact ⟨125, by rw [if_neg h1, if_pos (by omega)], by omega⟩

theorem LInv.more {D : DS} {cap : Int} {n : Nat} {ps : List (List UInt8)} (h : LInv D cap n ps) : LInv D cap (n + 1) ps :=
  ⟨h.cap, h.ok, h.off, h.fuse, h.pages, h.page, h.whole, by have := h.wr; omega, by have := h.pn; omega⟩

theorem L_looked {D : DS} {cap : Int} {n : Nat} {ps : List (List UInt8)} (h : LInv D cap n ps) : LInv D.looked cap n ps :=
  ⟨h.cap, ⟨h.ok.page, h.ok.data, h.ok.no, h.ok.len⟩, h.off, h.fuse, h.pages, h.page, h.whole, h.wr, h.pn⟩

theorem L_read {D : DS} {cap : Int} {n : Nat} {ps : List (List UInt8)} (h : LInv D cap n ps) (j : Nat) (p : List UInt8) (hj : ps[j]? = some p) : D.read j = (0, p, D.looked) := by
  have hlt := (List.getElem?_eq_some_iff.1 hj).1
  have hpg := h.pages
  unfold DS.read
  rw [if_neg (by omega), h.off, Int.toNat_natCast, h.page j p hj]; rfl

theorem L_sync {D : DS} {cap : Int} {n : Nat} {ps : List (List UInt8)} (h : LInv D cap n ps) : ∃ D', D.sync = (0, D') ∧ LInv D' cap n ps ∧ D'.pending = [] ∧ D'.lasting = ps := by
  have hc := L_count h.fuse
  have hco : D.count.off = false := by rw [hc]; exact h.off
  obtain ⟨o1, o2⟩ := layAll_ok D.lasting D.pending h.ok.page h.ok.len h.ok.data h.ok.no
  have hlen : (layAll D.lasting D.pending).length = ps.length := by
    rw [layAll_length, ← h.pages]; rfl
  have hget := layAll_getD D.lasting D.pending h.ok.page h.ok.data
  have hl : layAll D.lasting D.pending = ps := by
    apply List.ext_getElem hlen
    intro j h1 h2
    have e := hget j
    rw [List.getD_eq_getElem?_getD, List.getElem?_eq_getElem h1, Option.getD_some] at e
    rw [e]
    exact h.page j _ (List.getElem?_eq_getElem h2)
  refine ⟨{ D.count with lasting := layAll D.lasting D.pending, pending := [] }, ?_, ⟨?_, ⟨o1, fun q hq => by simp at hq, fun q hq => by simp at hq, o2⟩, hco, ?_, ?_, fun j p hj => ?_, h.whole, ?_, Nat.zero_le _⟩, rfl, hl⟩
  · unfold DS.sync; rw [h.off, hco]; rfl
  · show D.count.cap = _; rw [hc]; exact h.cap
  · show D.count.fuse = _; rw [hc]; exact h.fuse
  · show (layAll D.lasting D.pending).length = _; exact hlen
  · show (layAll D.lasting D.pending).getD j zpage = p
    rw [hl, List.getD_eq_getElem?_getD, hj]; rfl
  · show D.count.wr ≤ _; rw [hc]; exact h.wr

theorem L_new (cap : Int) : LInv (DS.new cap) cap 0 [] :=
  ⟨rfl, by constructor <;> simp [DS.new], rfl, rfl, rfl, fun j p hj => by simp at hj, fun p hp => by simp at hp, Nat.le_refl _, Nat.le_refl _⟩

/-- The pages of a book. -/
def bookP (book : List UInt8) : List (List UInt8) := book.map (rep 4096)
theorem bookP_length (book : List UInt8) : (bookP book).length = book.length := by simp [bookP]
theorem bookP_get {book : List UInt8} {j : Nat} {x : UInt8} (h : book[j]? = some x) : (bookP book)[j]? = some (rep 4096 x) := by simp [bookP, h]
theorem bookP_snoc (book : List UInt8) (x : UInt8) : bookP (book ++ [x]) = bookP book ++ [rep 4096 x] := by simp [bookP]
theorem bookP_set (book : List UInt8) (i : Nat) (x : UInt8) : bookP (book.set i x) = (bookP book).set i (rep 4096 x) := by simp [bookP, List.map_set]

theorem flat_get (m : Nat) (hm : 0 < m) (book : List UInt8) (k : Nat) (hk : k < book.length * m) : ((book.map (rep m)).flatten)[k]? = book[k / m]? := by
  induction book generalizing k with
  | nil => simp at hk
  | cons x book ih =>
    rw [List.map_cons, List.flatten_cons]
    by_cases h : k < m
    · rw [List.getElem?_append_left (by rw [rep_length]; exact h), Nat.div_eq_of_lt h]
      simp [rep, h]
    · rw [List.getElem?_append_right (by rw [rep_length]; omega), rep_length, ih (k - m) (by rw [List.length_cons, Nat.add_mul] at hk; omega)]
      have : k / m = (k - m) / m + 1 := by
        rw [← Nat.add_div_right _ hm, Nat.sub_add_cancel (by omega)]
      rw [this, List.getElem?_cons_succ]

theorem flat_length (book : List UInt8) : (bookP book).flatten.length = book.length * 4096 := by
  induction book with
  | nil => rfl
  | cons x book ih =>
    show (rep 4096 x ++ (bookP book).flatten).length = _
    rw [List.length_append, ih, rep_length, List.length_cons]; omega

theorem bookP_flat (book : List UInt8) (k : Nat) (hk : k < book.length * 4096) : (bookP book).flatten[k]? = book[k / 4096]? := flat_get 4096 (by omega) book k hk

end Go.Proofs.Ytckioocahmbhkaa
