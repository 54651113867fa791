/- The law DiskArms, in numbers. -/
import Derived.Test.YtckioocahmbhkaaW19
namespace Go.Proofs.Ytckioocahmbhkaa
open Go Go.RowKit

/-- Behind j operations, the power failing at the k-th; pend writes pend. -/
structure AInv (D : DS) (j k pend : Nat) : Prop where
  cap : D.cap = 50
  ok : D.ok
  done : D.done = (min j k : Nat)
  pl : D.pending.length = pend
  z : ∀ q ∈ D.pending, q.1 = 0
  ll : D.lasting.length ≤ 1
  wr : D.wr ≤ j
  lt : j < k → D.off = false ∧ D.fuse = (k : Int) - j
  ge : k ≤ j → D.off = true

theorem wrap_small {n : Int} (h0 : 0 ≤ n) (h1 : n ≤ 1000000) : wrap64 n = n := IntWalk.wrap64_in n ⟨by omega, by omega⟩

theorem A_count {D : DS} {j k pend : Nat} (h : AInv D j k pend) (hj : j ≤ 1000) (hjk : j < k) (_hk : k ≤ 1000) : D.count = { D with done := (j + 1 : Nat), fuse := (k : Int) - (j + 1 : Nat), off := decide (j + 1 = k) } := by
  obtain ⟨h1, h2⟩ := h.lt hjk
  have h3 := h.done
  have e1 : wrap64 (D.done + 1) = ((j + 1 : Nat) : Int) := by rw [wrap_small (by omega) (by omega)]; omega
  have e2 : (D.fuse - 1 == 0) = decide (j + 1 = k) := by
    rw [Bool.eq_iff_iff]; simp only [beq_iff_eq, decide_eq_true_eq]; omega
  rw [DS.count_pos (by omega), e1, e2, h2]
  congr 1
  omega

theorem A_write {D : DS} {j k pend : Nat} (h : AInv D j k pend) (hj : j ≤ 1000) (hk : k ≤ 1000) (p : List UInt8) (hp : p.length = 4096) :
    (j + 1 < k → ∃ D', D.write 0 p = (0, D') ∧ AInv D' (j + 1) k (pend + 1)) ∧ (j + 1 = k → ∃ D', D.write 0 p = (123, D') ∧ AInv D' (j + 1) k (pend + 1)) ∧ (k ≤ j → D.write 0 p = (123, D) ∧ AInv D (j + 1) k pend) := by
  have hc := h.cap
  have put : j < k → AInv (D.put 0 p) (j + 1) k (pend + 1) ∧ D.write 0 p = (if j + 1 = k then 123 else 0, D.put 0 p) := fun hjk => by
    have e := A_count h hj hjk hk
    obtain ⟨hoff, _⟩ := h.lt hjk
    have hw : D.write 0 p = (if j + 1 = k then 123 else 0, D.put 0 p) := by
      unfold DS.write
      rw [if_neg (by omega), if_neg (by omega), if_neg (by omega), hoff]
      show (if D.count.off = true then _ else _, D.put 0 p) = _
      rw [show D.count.off = decide (j + 1 = k) by rw [e]]
      by_cases hh : j + 1 = k
      · rw [decide_eq_true hh, if_pos rfl, if_pos hh]
      · rw [decide_eq_false hh, if_neg (by simp), if_neg hh]
    refine ⟨⟨?_, ⟨?_, ?_, ?_, ?_⟩, ?_, ?_, ?_, ?_, ?_, fun hlt => ⟨?_, ?_⟩, fun hge => ?_⟩, hw⟩
    all_goals try (unfold DS.put; rw [e])
    · exact hc
    · exact h.ok.page
    · intro q hq
      rcases List.mem_append.1 hq with e1 | e1
      · exact h.ok.data q e1
      · simp at e1; subst e1; exact hp
    · intro q hq
      rcases List.mem_append.1 hq with e1 | e1
      · exact h.ok.no q e1
      · simp at e1; subst e1; show 0 < 524287; omega
    · exact h.ok.len
    · show ((j + 1 : Nat) : Int) = _; omega
    · show (D.pending ++ [(0, p)]).length = _; rw [List.length_append, h.pl]; rfl
    · intro q hq
      rcases List.mem_append.1 hq with e1 | e1
      · exact h.z q e1
      · simp at e1; subst e1; rfl
    · exact h.ll
    · show D.wr + 1 ≤ _; have := h.wr; omega
    · show decide (j + 1 = k) = false; rw [decide_eq_false_iff_not]; omega
    · show decide (j + 1 = k) = true; rw [decide_eq_true_eq]; omega
  refine ⟨fun hl => ?_, fun he => ?_, fun hge => ?_⟩
  · obtain ⟨h1, h2⟩ := put (by omega)
    rw [if_neg (by omega)] at h2
    exact ⟨_, h2, h1⟩
  · obtain ⟨h1, h2⟩ := put (by omega)
    rw [if_pos he] at h2
    exact ⟨_, h2, h1⟩
  · have ho := h.ge hge
    refine ⟨?_, h.cap, h.ok, by have := h.done; omega, h.pl, h.z, h.ll, by have := h.wr; omega, fun hl => by omega, fun _ => ho⟩
    unfold DS.write
    rw [if_neg (by omega), if_neg (by omega), if_neg (by omega), ho]
    rfl

theorem layAll_zero (L : List (List UInt8)) (qs : List (Nat × List UInt8)) (hL : L.length ≤ 1) (h : ∀ q ∈ qs, q.1 = 0) : (layAll L qs).length ≤ 1 := by
  induction qs generalizing L with
  | nil => exact hL
  | cons q qs ih =>
    refine ih (layL L q.1 q.2 4096) ?_ (fun q' h' => h q' (by simp [h']))
    rw [layL_length, h q (by simp)]; omega

theorem A_sync {D : DS} {j k pend : Nat} (h : AInv D j k pend) (hj : j ≤ 1000) (hk : k ≤ 1000) :
    (j + 1 < k → ∃ D', D.sync = (0, D') ∧ AInv D' (j + 1) k 0) ∧ (j + 1 = k → ∃ D', D.sync = (123, D') ∧ AInv D' (j + 1) k pend) ∧ (k ≤ j → D.sync = (123, D) ∧ AInv D (j + 1) k pend) := by
  refine ⟨fun hl => ?_, fun he => ?_, fun hge => ?_⟩
  · have e := A_count h hj (by omega) hk
    obtain ⟨hoff, _⟩ := h.lt (by omega)
    have hco : D.count.off = false := by rw [e]; show decide (j + 1 = k) = false; rw [decide_eq_false_iff_not]; omega
    obtain ⟨o1, o2⟩ := layAll_ok D.lasting D.pending h.ok.page h.ok.len h.ok.data h.ok.no
    refine ⟨{ D.count with lasting := layAll D.lasting D.pending, pending := [] }, by unfold DS.sync; rw [hoff, hco]; rfl, ?_, ⟨o1, fun q hq => by simp at hq, fun q hq => by simp at hq, o2⟩, ?_, rfl, fun q hq => by simp at hq, layAll_zero _ _ h.ll h.z, ?_, fun _ => ⟨hco, ?_⟩, fun hge => by omega⟩
    · show D.count.cap = _; rw [e]; exact h.cap
    · show D.count.done = _; rw [e]; show ((j + 1 : Nat) : Int) = _; omega
    · show D.count.wr ≤ _; rw [e]; have := h.wr; show D.wr ≤ _; omega
    · show D.count.fuse = _; rw [e]
  · have e := A_count h hj (by omega) hk
    obtain ⟨hoff, _⟩ := h.lt (by omega)
    have hco : D.count.off = true := by rw [e]; show decide (j + 1 = k) = true; rw [decide_eq_true_eq]; omega
    refine ⟨D.count, by unfold DS.sync; rw [hoff, hco]; rfl, ?_⟩
    rw [e]
    exact ⟨h.cap, ⟨h.ok.page, h.ok.data, h.ok.no, h.ok.len⟩, by show ((j + 1 : Nat) : Int) = _; omega, h.pl, h.z, h.ll, by have := h.wr; show D.wr ≤ _; omega, fun hl => by omega, fun _ => by show decide (j + 1 = k) = true; rw [decide_eq_true_eq]; exact he⟩
  · have ho := h.ge hge
    refine ⟨?_, h.cap, h.ok, by have := h.done; omega, h.pl, h.z, h.ll, by have := h.wr; omega, fun hl => by omega, fun _ => ho⟩
    unfold DS.sync
    rw [ho]; rfl

theorem A_start (k : Nat) (hk : 1 ≤ k) : ∃ D', (DS.new 50).arm k = (0, D') ∧ AInv D' 0 k 0 := by
  refine ⟨{ DS.new 50 with fuse := k }, ?_, rfl, ?_, by show (0 : Int) = _; omega, rfl, fun q hq => by simp [DS.new] at hq, Nat.zero_le _, Nat.zero_le _, fun _ => ⟨rfl, by show (k : Int) = _; omega⟩, fun h => by omega⟩
  · unfold DS.arm; rw [if_neg (by omega)]; rfl
  · constructor <;> simp [DS.new]

/-- Behind the crash one write. -/
theorem A_end {D : DS} {j k pend : Nat} (h : AInv D j k pend) (_hj : j ≤ 1000) (p : List UInt8) (hp : p.length = 4096) :
    (D.crash []).ok ∧ ∃ D', (D.crash []).write 0 p = (0, D') ∧ D'.ok ∧ D'.off = false ∧ ∃ q, D'.pending = [q] := by
  have e0 : D.crash [] = { D with pending := [], off := false, fuse := 0 } := by simp [DS.crash, crashAll]
  have ec : (D.crash []).count = { D with pending := [], off := false, fuse := 0, done := wrap64 (D.done + 1) } := by
    rw [DS.count_neg (by rw [e0]; show (0 : Int) ≤ 0; omega), e0]
  have hc : (D.crash []).cap = 50 := by rw [e0]; exact h.cap
  refine ⟨by rw [e0]; exact ⟨h.ok.page, fun q hq => by simp at hq, fun q hq => by simp at hq, h.ok.len⟩, (D.crash []).put 0 p, ?_, ?_, ?_, (0, p), ?_⟩
  · unfold DS.write
    rw [if_neg (by omega), hc, if_neg (by omega), if_neg (by omega)]
    rw [show (D.crash []).off = false by rw [e0], show (D.crash []).count.off = false by rw [ec]]; rfl
  · unfold DS.put
    rw [ec, e0]
    exact ⟨h.ok.page, fun q hq => by simp at hq; subst hq; exact hp, fun q hq => by simp at hq; subst hq; show 0 < 524287; omega, h.ok.len⟩
  · unfold DS.put; rw [ec]
  · unfold DS.put; rw [e0]; rfl

theorem pendlen_st {w0 w : World} {own : Own} {b : Nat} {D : DS} (h : St w0 w own b D) (hok : D.ok) {n : Nat} (hb : D.pending.length = n) (hn : n < 1000000) :
    Calls Try.prog 14 #[.pointer (some ⟨b, 0, none⟩)] w fun e w' => ∃ a cap, e = .returned (.slice a n cap) ∧ St w0 w' own b D ∧ Step w own w' own := by
  subst hb
  refine (pending_st h hok hn rfl).mono ?_
  rintro e w' ⟨a, cap, _, rfl, _, h1, h2⟩
  exact ⟨a, cap, rfl, h1, h2⟩

/-- One operation; p1: what pends behind it, the power on; p2: the power failing. -/
def AStep (j k pend : Nat) (c : Int) (pend' : Nat) (dn : Int) (pw : Bool) (p1 p2 : Nat) : Prop :=
  (j + 1 < k ∧ c = 0 ∧ pend' = p1 ∧ dn = (j + 1 : Nat) ∧ pw = true) ∨ ((j + 1 ≤ k ∧ k ≤ j + 1) ∧ c = 123 ∧ pend' = p2 ∧ dn = (j + 1 : Nat) ∧ pw = false) ∨ (k ≤ j ∧ c = 123 ∧ pend' = pend ∧ dn = (k : Nat) ∧ pw = false)

theorem A_off {D : DS} {j k pend : Nat} (h : AInv D j k pend) : (j < k → (!D.off) = true) ∧ (k ≤ j → (!D.off) = false) := ⟨fun e => by rw [(h.lt e).1]; rfl, fun e => by rw [h.ge e]; rfl⟩

theorem A_write' {D : DS} {j k pend : Nat} (h : AInv D j k pend) (hj : j ≤ 1000) (hk : k ≤ 1000) (p : List UInt8) (hp : p.length = 4096) :
    ∃ c D' pend' dn pw, D.write 0 p = (c, D') ∧ AInv D' (j + 1) k pend' ∧ D'.done = dn ∧ (!D'.off) = pw ∧ D'.pending.length = pend' ∧ AStep j k pend c pend' dn pw (pend + 1) (pend + 1) := by
  obtain ⟨h1, h2, h3⟩ := A_write h hj hk p hp
  rcases (by omega : j + 1 < k ∨ j + 1 = k ∨ k ≤ j) with hl | he | hg
  · obtain ⟨D', e1, e2⟩ := h1 hl
    exact ⟨_, D', _, _, _, e1, e2, e2.done.trans (by rw [Nat.min_eq_left (by omega)]), (A_off e2).1 hl, e2.pl, .inl ⟨hl, rfl, rfl, rfl, rfl⟩⟩
  · obtain ⟨D', e1, e2⟩ := h2 he
    exact ⟨_, D', _, _, _, e1, e2, e2.done.trans (by rw [Nat.min_eq_left (by omega)]), (A_off e2).2 (by omega), e2.pl, .inr (.inl ⟨⟨by omega, by omega⟩, rfl, rfl, rfl, rfl⟩)⟩
  · obtain ⟨e1, e2⟩ := h3 hg
    exact ⟨_, D, _, _, _, e1, e2, e2.done.trans (by rw [Nat.min_eq_right (by omega)]), (A_off e2).2 (by omega), e2.pl, .inr (.inr ⟨hg, rfl, rfl, rfl, rfl⟩)⟩

theorem A_sync' {D : DS} {j k pend : Nat} (h : AInv D j k pend) (hj : j ≤ 1000) (hk : k ≤ 1000) :
    ∃ c D' pend' dn pw, D.sync = (c, D') ∧ AInv D' (j + 1) k pend' ∧ D'.done = dn ∧ (!D'.off) = pw ∧ D'.pending.length = pend' ∧ AStep j k pend c pend' dn pw 0 pend := by
  obtain ⟨h1, h2, h3⟩ := A_sync h hj hk
  rcases (by omega : j + 1 < k ∨ j + 1 = k ∨ k ≤ j) with hl | he | hg
  · obtain ⟨D', e1, e2⟩ := h1 hl
    exact ⟨_, D', _, _, _, e1, e2, e2.done.trans (by rw [Nat.min_eq_left (by omega)]), (A_off e2).1 hl, e2.pl, .inl ⟨hl, rfl, rfl, rfl, rfl⟩⟩
  · obtain ⟨D', e1, e2⟩ := h2 he
    exact ⟨_, D', _, _, _, e1, e2, e2.done.trans (by rw [Nat.min_eq_left (by omega)]), (A_off e2).2 (by omega), e2.pl, .inr (.inl ⟨⟨by omega, by omega⟩, rfl, rfl, rfl, rfl⟩)⟩
  · obtain ⟨e1, e2⟩ := h3 hg
    exact ⟨_, D, _, _, _, e1, e2, e2.done.trans (by rw [Nat.min_eq_right (by omega)]), (A_off e2).2 (by omega), e2.pl, .inr (.inr ⟨hg, rfl, rfl, rfl, rfl⟩)⟩

theorem ofNat_small (n : Nat) (h : n < 256) : ((UInt8.ofNat n).toNat : Int) = n := by
  rw [UInt8.toNat_ofNat']; omega

end Go.Proofs.Ytckioocahmbhkaa
