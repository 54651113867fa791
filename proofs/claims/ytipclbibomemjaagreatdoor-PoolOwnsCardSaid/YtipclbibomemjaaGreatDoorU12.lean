/- The pool's calls as a law makes them; the chapter's example. -/
import Derived.Test.YtipclbibomemjaaGreatDoorU11
import Derived.Outline
namespace Go.Proofs.YtipclbibomemjaaGreatDoor
open Go Go.RowKit Go.Maps

/-- The pool P lies at pb, made since w0; what was there at w0 is as it was. -/
structure Pl (w0 w : World) (pb m1 m2 : Nat) (P : PS) : Prop where
  pool : PoolF w pb m1 m2 P
  chg : Chg (fun _ => False) w0 w
  n0 : w0.heap.size ≤ pb
  n1 : w0.heap.size ≤ m1
  n2 : w0.heap.size ≤ m2

theorem Pl.step {w0 w w' : World} {pb m1 m2 : Nat} {P P' : PS} {S : Nat → Prop} (h : Pl w0 w pb m1 m2 P) (hp : PoolF w' pb m1 m2 P') (hc : Chg S w w') (hs : ∀ k, S k → k = pb ∨ k = m1 ∨ k = m2) : Pl w0 w' pb m1 m2 P' :=
  ⟨hp, h.chg.trans hc (fun x e => .inr (by have a := h.n0; have b := h.n1; have c := h.n2; rcases hs x e with e | e | e <;> omega)), h.n0, h.n1, h.n2⟩
/-- Others' work. -/
theorem Pl.other {w0 w w' : World} {pb m1 m2 : Nat} {P : PS} {S : Nat → Prop} (h : Pl w0 w pb m1 m2 P) (hc : Chg S w w') (hs : ∀ k, S k → k ≠ pb ∧ k ≠ m1 ∧ k ≠ m2 ∧ w0.heap.size ≤ k) : Pl w0 w' pb m1 m2 P :=
  ⟨h.pool.chg hc (fun e => (hs _ e).1 rfl) (fun e => (hs _ e).2.1 rfl) (fun e => (hs _ e).2.2.1 rfl), h.chg.trans hc (fun x e => .inr (hs x e).2.2.2), h.n0, h.n1, h.n2⟩
theorem Pl.other0 {w0 w w' : World} {pb m1 m2 : Nat} {P : PS} (h : Pl w0 w pb m1 m2 P) (hc : Chg (fun _ => False) w w') : Pl w0 w' pb m1 m2 P := h.other hc (fun _ f => f.elim)

theorem count_pl {w0 w : World} {pb m1 m2 : Nat} {P : PS} (h : Pl w0 w pb m1 m2 P) {n : Int} (hn : (P.size : Int) = n) : Calls Tryz.prog 20 #[.pointer (some ⟨pb, 0, none⟩)] w fun e w' => e = .returned (.int .i64 n) ∧ w = w' := by
  have := count_any w pb m1 m2 P h.pool
  rw [hn] at this; exact this
theorem room_pl {w0 w : World} {pb m1 m2 : Nat} {P : PS} (h : Pl w0 w pb m1 m2 P) (hok : P.ok) (hcap : P.cap ≤ 1000000) {n : Int} (hn : P.room = n) :
    Calls Tryz.prog 17 #[.pointer (some ⟨pb, 0, none⟩)] w fun e w' => e = .returned (.int .i64 n) ∧ Pl w0 w' pb m1 m2 P ∧ Chg (fun _ => False) w w' := by
  have := room_any w pb m1 m2 P h.pool hok hcap
  rw [hn] at this
  exact this.mono fun e w' ⟨he, hc⟩ => ⟨he, h.other0 hc, hc⟩
theorem lists_pl {w0 w : World} {pb m1 m2 : Nat} {P : PS} (h : Pl w0 w pb m1 m2 P) (hok : P.ok) (d : Int) {v : Value} {gone : List Int} (hs : SeesI w v gone) (hl : gone.length ≤ 1000000) (hwf : ∀ x ∈ gone, (Lit.int .i64 x).wf = true) {n : Int} (hn : P.lists d gone = n) :
    Calls Tryz.prog 18 #[.pointer (some ⟨pb, 0, none⟩), .int .i64 d, v] w fun e w' => e = .returned (.int .i64 n) ∧ Pl w0 w' pb m1 m2 P ∧ Chg (fun _ => False) w w' := by
  have := lists_any w pb m1 m2 P h.pool hok d v gone hs hl hwf
  rw [hn] at this
  exact this.mono fun e w' ⟨he, hc⟩ => ⟨he, h.other0 hc, hc⟩
theorem usable_pl {w0 w : World} {pb m1 m2 : Nat} {P : PS} (h : Pl w0 w pb m1 m2 P) (hok : P.ok) {zs : List Int} (hz : nums P.usable = zs) :
    Calls Tryz.prog 14 #[.pointer (some ⟨pb, 0, none⟩)] w fun e w' => ∃ a c, e = .returned (.slice a zs.length c) ∧ NewI w w' (.slice a zs.length c) zs ∧ Pl w0 w' pb m1 m2 P ∧ Chg (fun _ => False) w w' := by
  have := usable_any w pb m1 m2 P h.pool hok
  rw [hz] at this
  refine this.mono ?_
  rintro e w' ⟨v, rfl, hN, hc⟩
  obtain ⟨a, c, rfl, _⟩ := ownsRow_slice hN.1
  exact ⟨a, c, rfl, hN, h.other0 hc, hc⟩
theorem free_pl {w0 w : World} {pb m1 m2 : Nat} {P : PS} (h : Pl w0 w pb m1 m2 P) (hok : P.ok) {zs : List Int} (hz : nums P.free = zs) :
    Calls Tryz.prog 13 #[.pointer (some ⟨pb, 0, none⟩)] w fun e w' => ∃ a c, e = .returned (.slice a zs.length c) ∧ NewI w w' (.slice a zs.length c) zs ∧ Pl w0 w' pb m1 m2 P ∧ Chg (fun _ => False) w w' := by
  have := free_any w pb m1 m2 P h.pool hok
  rw [hz] at this
  refine this.mono ?_
  rintro e w' ⟨v, rfl, hN, hc⟩
  obtain ⟨a, c, rfl, _⟩ := ownsRow_slice hN.1
  exact ⟨a, c, rfl, hN, h.other0 hc, hc⟩
theorem pin_pl {w0 w : World} {pb m1 m2 : Nat} {P : PS} (h : Pl w0 w pb m1 m2 P) (hw : P.wr < 1000000) (hp : P.pins.length < 1000000) (x : Int) (hx : (Lit.int .i64 x).wf = true) {P' : PS} (hP : { P with pins := P.pins ++ [x], wr := P.wr + 1 } = P') :
    Calls Tryz.prog 9 #[.pointer (some ⟨pb, 0, none⟩), .int .i64 x] w fun e w' => e = .returned (.tuple #[]) ∧ Pl w0 w' pb m1 m2 P' ∧ Chg (fun k => k = m2) w w' := by
  have := pin_any w pb m1 m2 P h.pool hw hp x hx
  rw [hP] at this
  exact this.mono fun e w' ⟨he, hq, hc⟩ => ⟨he, h.step hq hc (fun k e => .inr (.inr e)), hc⟩
theorem unpin_pl {w0 w : World} {pb m1 m2 : Nat} {P : PS} (h : Pl w0 w pb m1 m2 P) (hw : P.wr < 1000000) (hp : P.pins.length < 1000000) (x : Int) (hx : (Lit.int .i64 x).wf = true) {P' : PS} {b : Bool} (hP : { P with pins := P.pins.erase x, wr := P.wr + 1 } = P') (hb : decide (x ∈ P.pins) = b) :
    Calls Tryz.prog 10 #[.pointer (some ⟨pb, 0, none⟩), .int .i64 x] w fun e w' => e = .returned (.bool b) ∧ Pl w0 w' pb m1 m2 P' ∧ Chg (fun k => k = m2) w w' := by
  have := unpin_any w pb m1 m2 P h.pool hw hp x hx
  rw [hP, hb] at this
  exact this.mono fun e w' ⟨he, hq, hc⟩ => ⟨he, h.step hq hc (fun k e => .inr (.inr e)), hc⟩

theorem least_le (all usable : Nat) (d : Int) (hd : 0 ≤ d) : ∀ n f, f + n = all + 1 → f ≤ all → least all usable d n f ≤ all := by
  intro n
  induction n with
  | zero => intro f h1 h2; unfold least; omega
  | succ n ih =>
    intro f h1 h2
    unfold least
    by_cases h : needs all usable d f = true
    · rw [if_pos h]; omega
    · rw [if_neg h]
      refine ih (f + 1) (by omega) ?_
      rcases Nat.lt_or_ge f all with h3 | h3
      · omega
      · have : f = all := by omega
        rw [this, needs_all all usable d hd] at h; exact (h rfl).elim
theorem lists_le {P : PS} (hok : P.ok) (d : Int) {gone : List Int} (hl : gone.length ≤ 1000000) : P.lists d gone ≤ 2000000 := by
  unfold PS.lists
  split
  · omega
  split
  · omega
  split
  · omega
  rename_i h1 _ _
  unfold PS.pagesOf
  have := least_le (P.free.length + gone.length) P.usable.length d (by omega) (P.free.length + gone.length + 1) 0 (by omega) (by omega)
  have := hok.len
  omega

/-- Memory ahead of a pool's. -/
theorem far_new {w0 w w' : World} {pb m1 m2 : Nat} {P : PS} {v : Value} {zs : List Int} (h : Pl w0 w pb m1 m2 P) (hN : NewI w w' v zs) : ∀ ad n c, v = .slice (some ad) n c → zs ≠ [] → ad.block ≠ pb ∧ ad.block ≠ m1 ∧ ad.block < w'.heap.size := by
  intro ad n c e hz
  subst e
  have h1 := hN.2 ad.block rfl
  obtain ⟨l0, l1, l2⟩ := h.pool.lt
  refine ⟨by omega, by omega, ?_⟩
  rcases hN.1.2 with ⟨e, _⟩ | ⟨g, cap, cur, e, hg, hh, _⟩
  · cases e
  · cases e; exact heap_lt hh

theorem commit_pl {w0 w : World} {pb m1 m2 : Nat} {P : PS} (h : Pl w0 w pb m1 m2 P) (hok : P.ok) (hcap : P.cap ≤ 1000000) (d : Int) (hd : d ≤ 9223372036854775807) (hd0 : -9223372036854775808 ≤ d) {v : Value} {gone : List Int} (hs : SeesI w v gone) (hl : gone.length ≤ 1000000) (hwf : ∀ x ∈ gone, (Lit.int .i64 x).wf = true) (ver : Int) (hver : (Lit.int .i64 ver).wf = true)
    (hfar : ∀ ad n c, v = .slice (some ad) n c → gone ≠ [] → ad.block ≠ pb ∧ ad.block ≠ m1 ∧ ad.block < w.heap.size) {zs : List Int} {c : Int} {P' : PS} (hC : P.commit d gone ver = (zs, c, P')) :
    Calls Tryz.prog 11 #[.pointer (some ⟨pb, 0, none⟩), .int .i64 d, v, .int .i64 ver] w fun e w' => ∃ a cp, e = .returned (.tuple #[.slice a zs.length cp, .int .i64 c]) ∧ NewI w w' (.slice a zs.length cp) zs ∧ Pl w0 w' pb m1 m2 P' ∧ Chg (fun k => k = pb ∨ k = m1) w w' := by
  by_cases hno : P.lists d gone < 0 ∨ P.room - P.lists d gone < d
  · refine (commit_no w pb m1 m2 P h.pool hok hcap d hd hd0 v gone hs hl hwf ver hno (lists_le hok d hl)).mono ?_
    rintro e w' ⟨rfl, e1, e2, hc⟩
    rw [hC] at e1 e2 ⊢
    obtain rfl : P' = P := e1
    obtain rfl : zs = [] := e2
    exact ⟨none, 0, rfl, ⟨World.ownsRow_nil _ _ _ _, fun g e => by simp [Value.ownBlock] at e⟩, h.other0 hc, hc.mono (fun _ f => f.elim)⟩
  · refine (commit_yes w pb m1 m2 P h.pool hok hcap d v gone hs hl hwf ver hver hfar (by omega) (by omega) (lists_le hok d hl)).mono ?_
    rintro e w' ⟨v', rfl, hN, hq, hc⟩
    unfold PS.commit at hC
    rw [if_neg (by omega), if_neg (by omega)] at hC
    cases hC
    obtain ⟨a, cp, rfl, _⟩ := ownsRow_slice hN.1
    exact ⟨a, cp, rfl, hN, h.step hq hc (fun k e => e.imp id .inl), hc⟩

theorem sort_eq {L L' : List (Nat × Int)} (hp : L.Perm L') (hs : L'.Pairwise fun p q => p.1 < q.1) : L.mergeSort leQ = L' := by
  refine List.Perm.eq_of_pairwise (le := fun a b => leQ a b = true) (fun a b h0 h0' h1 h2 => ?_) (List.pairwise_mergeSort (fun a b c h1 h2 => ?_) (fun a b => ?_) L) (hs.imp fun h => ?_) ((List.mergeSort_perm L leQ).trans hp)
  · simp only [leQ, decide_eq_true_eq] at h1 h2
    exact rise_inj hs (hp.mem_iff.1 ((List.mergeSort_perm L leQ).mem_iff.1 h0)) h0' (by omega)
  · simp only [leQ, decide_eq_true_eq] at *; omega
  · simp only [leQ, Bool.or_eq_true, decide_eq_true_eq]; omega
  · simp only [leQ, decide_eq_true_eq]; omega

theorem sees_new (w : World) (zs : List Int) : SeesI (w.alloc (.cells (zs.map (Value.int .i64)).toArray 3)) (.slice (some ⟨w.heap.size, 0, none⟩) zs.length zs.length) zs := by
  refine ⟨_, _, rfl, (fun e => by cases e), fun ad e j x hx => ?_⟩
  cases e
  rw [addr_add, Nat.zero_add]
  unfold World.cell?
  rw [heap_alloc_new w _]
  simp [hx]
theorem SeesI.of_row {w : World} {v : Value} {zs : List Int} (h : w.ownsRow 0 3 1 v zs.length (zs.map (Value.int .i64))) : SeesI w v zs := by
  obtain ⟨a, c, rfl, _, _, hp⟩ := ownsRow_slice h
  refine ⟨a, c, rfl, fun e => ?_, fun ad e j x hx => ?_⟩
  · subst e
    rcases Nat.eq_zero_or_pos zs.length with e | e
    · exact List.eq_nil_of_length_eq_zero e
    · obtain ⟨g, e⟩ := hp e; cases e
  · subst e
    exact row_at h (by rw [List.getElem?_map, hx]; rfl)

def F0 : PS := { size := 10, cap := 12, free := [(3, 0), (5, 0), (6, 0)], pins := [], wr := 0 }
def F1 : PS := { size := 10, cap := 12, free := [(4, 7), (6, 0), (9, 7)], pins := [], wr := 0 }
def F2 : PS := { F1 with pins := [6], wr := 1 }
def F3 : PS := { F1 with pins := [], wr := 2 }
def F4 : PS := { F1 with pins := [], wr := 3 }
theorem f_new : PS.new 10 12 [3, 5, 6] = F0 := by rfl
theorem f_new_ok : newOk 10 12 [3, 5, 6] := ⟨by decide, by decide, by decide, by decide⟩
theorem ok_of {P : PS} (h : P.free = F0.free ∨ P.free = F1.free) (hs : P.size = 10) : P.ok := by
  rcases h with h | h
  · exact ⟨by rw [h]; decide, by rw [h]; decide, by rw [h, hs]; decide, by omega, by rw [h]; decide⟩
  · exact ⟨by rw [h]; decide, by rw [h]; decide, by rw [h, hs]; decide, by omega, by rw [h]; decide⟩
theorem f_room : F0.room = 5 := by decide
theorem f_lists : F0.lists 1 [] = 1 := by decide
theorem f_lists2 : F0.lists 1 [4, 9] = 1 := by decide
theorem f_commit : F0.commit 1 [4, 9] 7 = ([3, 5], 0, F1) := by
  have h1 : F0.wants 1 [4, 9] = 2 := by decide
  have h2 : F0.given 1 [4, 9] = [3, 5] := by decide
  have h3 : F0.after 1 [4, 9] 7 = F1 := by
    have e1 : F0.old 1 [4, 9] = [3, 5] := by decide
    have e2 : F0.wants 1 [4, 9] - F0.usable.length = 0 := by decide
    unfold PS.after
    rw [e1, e2, sort_eq (L' := [(4, 7), (6, 0), (9, 7)]) (by decide) (by decide)]
    rfl
  unfold PS.commit
  rw [f_lists2, f_room, h2, h3]
  rfl
theorem f_pin : ({ F1 with pins := F1.pins ++ [6], wr := F1.wr + 1 } : PS) = F2 := rfl
theorem f_usable : nums F2.usable = [6] := by decide
theorem f_unpin : ({ F2 with pins := F2.pins.erase 6, wr := F2.wr + 1 } : PS) = F3 := by rfl
theorem f_unpin2 : ({ F3 with pins := F3.pins.erase 6, wr := F3.wr + 1 } : PS) = F4 := by rfl
theorem f_free : nums F4.free = [4, 6, 9] := by decide
theorem f_commit2 : F4.commit 0 [4] 8 = ([], 171, F4) := by
  have : F4.lists 0 [4] = -1 := by decide
  unfold PS.commit
  rw [this]
  rfl
end Go.Proofs.YtipclbibomemjaaGreatDoor
