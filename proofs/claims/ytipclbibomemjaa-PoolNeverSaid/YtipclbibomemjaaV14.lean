/- One call at both pools, in numbers; the calls that write, at the document's pool. -/
import Derived.Test.YtipclbibomemjaaV13
import Derived.OpenShut
namespace Go.Proofs.Ytipclbibomemjaa
open Go Go.RowKit Go.Maps

structure PS.fit (P : PS) (n : Nat) : Prop where
  ok : P.ok
  cap : P.cap ≤ 600000
  size : P.size ≤ P.cap
  pins : P.pins.length ≤ n
  wr : P.wr ≤ n
theorem PS.fit.small {P : PS} {n : Nat} (h : P.fit n) (hn : n < 1000000) : P.small := ⟨h.ok, h.cap, Nat.lt_of_le_of_lt h.pins hn, Nat.lt_of_le_of_lt h.wr hn⟩
theorem PS.fit.mono {P : PS} {n m : Nat} (h : P.fit n) (hn : n ≤ m) : P.fit m := ⟨h.ok, h.cap, h.size, Nat.le_trans h.pins hn, Nat.le_trans h.wr hn⟩
theorem new_fit {count cap : Int} {free : List Int} (h : newOk count cap free) : (PS.new count cap free).fit 0 :=
  ⟨new_ok h, by have := h.2.2.1; show cap.toNat ≤ 600000; omega, by have := h.1; have := h.2.1; show count.toNat ≤ cap.toNat; omega, Nat.le_refl _, Nat.le_refl _⟩

/-- One call. -/
def PS.does (P : PS) (kind a b : Int) (gone : List Int) : PS :=
  if kind = 1 then { P with pins := P.pins ++ [a], wr := P.wr + 1 }
  else if kind = 2 then { P with pins := P.pins.erase a, wr := P.wr + 1 }
  else if kind = 5 then (P.commit a gone b).2.2 else P

theorem after_fit {P : PS} {n : Nat} (h : P.fit n) {d : Int} {gone : List Int} {ver : Int} (hv : (Lit.int .i64 ver).wf = true) (hf0 : 0 ≤ P.lists d gone) (hf1 : d ≤ P.room - P.lists d gone) : (P.after d gone ver).fit n := by
  obtain ⟨hd0, hrise, hany⟩ := lists_facts hf0
  obtain ⟨g1, g2⟩ := riseK_facts hrise
  have hsz : P.size + (P.wants d gone - P.usable.length) ≤ P.cap := by
    unfold PS.wants
    unfold PS.room at hf1
    have := h.size
    omega
  have hno : ∀ x ∈ gone, ∀ q ∈ P.free, (q.1 : Int) ≠ x := fun x hx q hq e => by
    have h1 := List.any_eq_false.1 hany x hx
    apply h1
    unfold PS.has
    rw [List.any_eq_true]
    exact ⟨q, hq, by rw [beq_iff_eq]; exact e⟩
  have hmem : ∀ q ∈ (P.after d gone ver).free, q ∈ P.free ∨ ∃ x ∈ gone, q = (x.toNat, ver) := fun q hq => by
    have h1 := (List.mergeSort_perm _ leQ).mem_iff.1 hq
    rcases List.mem_append.1 h1 with e | e
    · exact .inl (List.mem_filter.1 e).1
    · obtain ⟨x, hx, rfl⟩ := List.mem_map.1 e
      exact .inr ⟨x, hx, rfl⟩
  have hne : (stays P.free (P.old d gone) ++ back gone ver).Pairwise fun p q => p.1 ≠ q.1 := by
    rw [List.pairwise_append]
    refine ⟨stays_pair h.ok _, ?_, fun p hp q hq => ?_⟩
    · unfold back
      rw [List.pairwise_map]
      exact g1.imp_of_mem (fun {a b} ha hb hab => by have := (g2 a ha).1; have := (g2 b hb).1; show a.toNat ≠ b.toNat; omega)
    · obtain ⟨x, hx, rfl⟩ := List.mem_map.1 hq
      have h1 := hno x hx p (List.mem_filter.1 hp).1
      have := (g2 x hx).1
      show p.1 ≠ x.toNat
      omega
  refine ⟨⟨?_, fun q hq => ?_, fun q hq => ?_, ?_, fun q hq => ?_⟩, h.cap, hsz, h.pins, h.wr⟩
  · have h1 : (P.after d gone ver).free.Pairwise fun p q => p.1 ≠ q.1 := ((List.mergeSort_perm _ leQ).pairwise_iff (fun {a b} h e => h e.symm)).2 hne
    have h2 : (P.after d gone ver).free.Pairwise fun p q => leQ p q = true := List.pairwise_mergeSort (fun a b c h1 h2 => by simp only [leQ, decide_eq_true_eq] at *; omega) (fun a b => by simp only [leQ, Bool.or_eq_true, decide_eq_true_eq]; omega) _
    exact (h1.and h2).imp (fun ⟨a, b⟩ => by simp only [leQ, decide_eq_true_eq] at b; omega)
  · rcases hmem q hq with e | ⟨x, hx, rfl⟩
    · exact h.ok.lo q e
    · have := (g2 x hx).1; show 2 ≤ x.toNat; omega
  · have hs : (P.after d gone ver).size = P.size + (P.wants d gone - P.usable.length) := rfl
    rw [hs]
    rcases hmem q hq with e | ⟨x, hx, rfl⟩
    · have := h.ok.hi q e; omega
    · have := (g2 x hx).2; have := (g2 x hx).1; show x.toNat < _; omega
  · have hs : (P.after d gone ver).size = P.size + (P.wants d gone - P.usable.length) := rfl
    rw [hs]
    have := h.cap
    omega
  · rcases hmem q hq with e | ⟨x, hx, rfl⟩
    · exact h.ok.since q e
    · have := bounds_i64 hv; exact this.2

theorem commit_fit {P : PS} {n : Nat} (h : P.fit n) {d : Int} {gone : List Int} {ver : Int} (hv : (Lit.int .i64 ver).wf = true) : (P.commit d gone ver).2.2.fit n := by
  unfold PS.commit
  split
  · exact h
  split
  · exact h
  · exact after_fit h hv (by omega) (by omega)

theorem does_fit {P : PS} {n : Nat} (h : P.fit n) (kind a b : Int) (gone : List Int) (hb : (Lit.int .i64 b).wf = true) : (P.does kind a b gone).fit (n + 1) := by
  unfold PS.does
  split
  · refine ⟨⟨h.ok.rise, h.ok.lo, h.ok.hi, h.ok.size, h.ok.since⟩, h.cap, h.size, ?_, ?_⟩
    · rw [List.length_append]; have := h.pins; simp; omega
    · have := h.wr; show P.wr + 1 ≤ n + 1; omega
  split
  · refine ⟨⟨h.ok.rise, h.ok.lo, h.ok.hi, h.ok.size, h.ok.since⟩, h.cap, h.size, ?_, ?_⟩
    · exact Nat.le_trans List.length_erase_le (Nat.le_succ_of_le h.pins)
    · have := h.wr; show P.wr + 1 ≤ n + 1; omega
  split
  · exact (commit_fit h hb).mono (Nat.le_succ n)
  · exact h.mono (Nat.le_succ n)

section
variable {w : World} {T : Nat → Prop} {rb : Nat} {P : PS}
theorem rpin_p (h : RfAt w T rb P) (hok : P.small) (x : Int) {P' : PS} (hP : { P with pins := P.pins ++ [x], wr := P.wr + 1 } = P') :
    Calls Try.prog 32 #[.pointer (some ⟨rb, 0, none⟩), .int .i64 x] w fun e w' => e = .returned (.tuple #[]) ∧ ∃ T', RfAt w' T' rb P' ∧ TStep w T w' T' := by
  obtain ⟨lv, pv, hF, h1, h2⟩ := h.f
  subst hP
  refine (rpin_any w rb P lv pv hF (Nat.le_of_lt hok.pins) x).mono ?_
  rintro e w' ⟨rfl, pv', hF', hc, hn⟩
  refine ⟨rfl, fun k => T k ∨ pv'.ownBlock = some k, ⟨⟨lv, pv', hF', fun g e => .inl (h1 g e), fun g e => .inr e⟩, .inl h.str, fun k e => ?_⟩, hc.mono (fun k e => ?_), fun k e => ?_⟩
  · rcases e with e | e
    · exact Nat.lt_of_lt_of_le (h.lt k e) hc.size
    · exact ownsRow_lt hF'.pn e
  · rcases e with e | e
    · rw [e]; exact h.str
    · exact h2 k e
  · rcases e with e | e
    · exact .inl e
    · exact (hn k e).imp (h2 k) id
theorem runpin_p (h : RfAt w T rb P) (hok : P.small) (x : Int) {P' : PS} {c : Bool} (hP : { P with pins := P.pins.erase x, wr := P.wr + 1 } = P') (hc : decide (x ∈ P.pins) = c) :
    Calls Try.prog 33 #[.pointer (some ⟨rb, 0, none⟩), .int .i64 x] w fun e w' => e = .returned (.bool c) ∧ ∃ T', RfAt w' T' rb P' ∧ TStep w T w' T' := by
  obtain ⟨lv, pv, hF, h1, h2⟩ := h.f
  subst hP
  subst hc
  refine (runpin_any w rb P lv pv hF (Nat.le_of_lt hok.pins) x).mono ?_
  rintro e w' ⟨rfl, pv', hF', hc, hn⟩
  refine ⟨rfl, fun k => T k ∨ pv'.ownBlock = some k, ⟨⟨lv, pv', hF', fun g e => .inl (h1 g e), fun g e => .inr e⟩, .inl h.str, fun k e => ?_⟩, hc.mono (fun k e => ?_), fun k e => ?_⟩
  · rcases e with e | e
    · exact Nat.lt_of_lt_of_le (h.lt k e) hc.size
    · exact ownsRow_lt hF'.pn e
  · rcases e with e | e
    · rw [e]; exact h.str
    · exact h2 k e
  · rcases e with e | e
    · exact .inl e
    · exact (hn k e).imp (h2 k) id
theorem rcommit_p (h : RfAt w T rb P) (hok : P.small) (d : Int) {v : Value} {gone : List Int} (hs : SeesI w v gone) (hl : gone.length ≤ 1000000) (ver : Int)
    (hfar : ∀ ad n c, v = .slice (some ad) n c → gone ≠ [] → ad.block ≠ rb) {zs : List Int} {c : Int} {P' : PS} (hC : P.commit d gone ver = (zs, c, P')) :
    Calls Try.prog 35 #[.pointer (some ⟨rb, 0, none⟩), .int .i64 d, v, .int .i64 ver] w fun e w' => ∃ a cp, e = .returned (.tuple #[.slice a zs.length cp, .int .i64 c]) ∧ SeesI w' (.slice a zs.length cp) zs ∧ ∃ T', RfAt w' T' rb P' ∧ TStep w T w' T' := by
  obtain ⟨lv, pv, hF, h1, h2⟩ := h.f
  have hcap : P.cap ≤ 1000000 := Nat.le_trans hok.cap (by omega)
  by_cases hno : P.lists d gone < 0 ∨ P.room - P.lists d gone < d
  · refine (rcommit_no w rb P lv pv hF hok.ok hcap (Nat.le_of_lt hok.pins) d v gone hs hl ver hno).mono ?_
    rintro e w' ⟨rfl, e1, e2, hc⟩
    rw [hC] at e1 e2 ⊢
    obtain rfl : P' = P := e1
    obtain rfl : zs = [] := e2
    exact ⟨none, 0, rfl, ⟨none, 0, rfl, fun _ => rfl, fun ad e => by cases e⟩, T, h.chg hc (fun _ _ f => f), hc.mono (fun _ f => f.elim), fun k e => .inl e⟩
  · refine (rcommit_yes w rb P lv pv hF hok.ok hcap (Nat.le_of_lt hok.pins) d v gone hs hl ver hfar (by omega) (by omega) (lists_le hok.ok d hl)).mono ?_
    rintro e w' ⟨v', lv', rfl, hN, hF', hc, hn, _⟩
    unfold PS.commit at hC
    rw [if_neg (by omega), if_neg (by omega)] at hC
    cases hC
    obtain ⟨a, cp, rfl⟩ := hN.slice
    refine ⟨a, cp, rfl, hN.sees, fun k => T k ∨ lv'.ownBlock = some k, ⟨⟨lv', pv, hF', fun g e => .inr e, fun g e => .inl (h2 g e)⟩, .inl h.str, fun k e => ?_⟩, hc.mono (fun k e => by rw [e]; exact h.str), fun k e => ?_⟩
    · rcases e with e | e
      · exact Nat.lt_of_lt_of_le (h.lt k e) hc.size
      · exact ownsRow_lt hF'.fr e
    · rcases e with e | e
      · exact .inl e
      · exact .inr (hn k e)
end

/-- Both pools stepped. -/
theorem PairF.both {w w1 w2 : World} {T T2 T2' : Nat → Prop} {b pb m1 m2 rb : Nat} {P P' : PS} {S : Nat → Prop} (h : PairF w T b pb m1 m2 rb T2 P) (c1 : Chg S w w1) (hs : ∀ k, S k → k = pb ∨ k = m1 ∨ k = m2) (h1 : PoolF w1 pb m1 m2 P') (h2 : RfAt w2 T2' rb P') (s2 : TStep w1 T2 w2 T2') :
    PairF w2 (fun k => T k ∨ T2' k) b pb m1 m2 rb T2' P' ∧ TStep w T w2 (fun k => T k ∨ T2' k) := by
  have hlt1 := h1.lt
  have hz := c1.size
  have hz2 := s2.chg.size
  have hT : ∀ k, T k → k < w1.heap.size := fun k e => Nat.lt_of_lt_of_le (h.lt k e) hz
  have key : ∀ k, T k → ¬ T2 k → ¬ T2' k := fun k e hn e2 => (s2.sub k e2).elim hn (fun e3 => by have := hT k e; omega)
  refine ⟨⟨s2.chg.get (c1.get h.blk (fun e => by rcases hs b e with e | e | e; exact h.n0 e; exact h.n1 e; exact h.n2 e)) h.r0, h1.chg s2.chg h.r1 h.r2 h.r3, h2, .inl h.tb, .inl h.tp, .inl h.t1, .inl h.t2, fun k e => .inr e, h.n0, h.n1, h.n2, key b h.tb h.r0, key pb h.tp h.r1, key m1 h.t1 h.r2, key m2 h.t2 h.r3, fun k e => ?_⟩, ?_, fun k e => ?_⟩
  · rcases e with e | e
    · have := hT k e; omega
    · exact h2.lt k e
  · exact (c1.mono (fun k e => by rcases hs k e with e | e | e; rw [e]; exact h.tp; rw [e]; exact h.t1; rw [e]; exact h.t2)).trans s2.chg (fun k e => .inl (h.tr k e))
  · rcases e with e | e
    · exact .inl e
    · exact (s2.sub k e).imp (h.tr k) (fun e => by omega)
end Go.Proofs.Ytipclbibomemjaa
