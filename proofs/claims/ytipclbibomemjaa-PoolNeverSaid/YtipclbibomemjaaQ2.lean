/- The plain law of PoolLists. -/
import Derived.Test.YtipclbibomemjaaQ1
namespace Go.Proofs.Ytipclbibomemjaa
open Go Go.RowKit Go.Maps

theorem riseP_iff (last : Int) (zs : List Int) : riseP last zs = true ↔ zs.Pairwise (fun a b => a < b) ∧ ∀ x ∈ zs, last < x := by
  induction zs generalizing last with
  | nil => simp [riseP]
  | cons y zs ih =>
    unfold riseP
    by_cases h : y ≤ last
    · rw [if_pos h]
      constructor
      · intro h; cases h
      · rintro ⟨_, h2⟩; have := h2 y (by simp); omega
    · rw [if_neg h, ih, List.pairwise_cons]
      constructor
      · rintro ⟨h1, h2⟩
        refine ⟨⟨h2, h1⟩, fun x hx => ?_⟩
        rcases List.mem_cons.1 hx with rfl | e
        · omega
        · have := h2 x e; omega
      · rintro ⟨⟨h1, h2⟩, h3⟩
        exact ⟨h2, h1⟩
theorem riseL_iff (zs : List Int) : riseL zs = true ↔ zs.Pairwise (fun a b => a < b) := by
  cases zs with
  | nil => simp [riseL]
  | cons x l =>
    show riseP x l = true ↔ _
    rw [riseP_iff, List.pairwise_cons]
    exact ⟨fun ⟨a, b⟩ => ⟨b, a⟩, fun ⟨a, b⟩ => ⟨b, a⟩⟩
theorem riseK_iff (count last : Int) (zs : List Int) : riseK count last zs = true ↔ zs.Pairwise (fun a b => a < b) ∧ ∀ x ∈ zs, last < x ∧ x < count := by
  refine ⟨riseK_facts, ?_⟩
  rintro ⟨h1, h2⟩
  induction zs generalizing last with
  | nil => rfl
  | cons y zs ih =>
    obtain ⟨a, b⟩ := List.pairwise_cons.1 h1
    have hy := h2 y (by simp)
    unfold riseK
    rw [if_neg (by omega)]
    exact ih y b (fun x hx => ⟨a x hx, (h2 x (by simp [hx])).2⟩)

theorem back_length (zs : List Int) (v : Int) : (back zs v).length = zs.length := List.length_map _
theorem new_ok {count cap : Int} {free : List Int} (h : newOk count cap free) : (PS.new count cap free).ok := by
  obtain ⟨h1, h2, h3, h4⟩ := h
  obtain ⟨hp, hb⟩ := riseK_facts h4
  refine ⟨?_, fun q hq => ?_, fun q hq => ?_, ?_, fun q hq => ?_⟩
  · show (back free 0).Pairwise _
    unfold back
    rw [List.pairwise_map]
    exact hp.imp_of_mem (fun {a b} ha hb' hab => by have := hb a ha; have := hb b hb'; show a.toNat < b.toNat; omega)
  · obtain ⟨x, hx, rfl⟩ := List.mem_map.1 hq
    have := hb x hx
    show 2 ≤ x.toNat; omega
  · obtain ⟨x, hx, rfl⟩ := List.mem_map.1 hq
    have := hb x hx
    show x.toNat < count.toNat; omega
  · show count.toNat ≤ 1000000; omega
  · obtain ⟨x, hx, rfl⟩ := List.mem_map.1 hq
    show (0 : Int) ≤ _; omega
theorem new_usable (count cap : Int) (free : List Int) : (PS.new count cap free).usable = back free 0 := by
  unfold PS.usable
  exact List.filter_eq_self.2 (fun q _ => rfl)
theorem new_has {count cap : Int} {free : List Int} (h : newOk count cap free) (x : Int) : (PS.new count cap free).has x = hasK free x := by
  obtain ⟨hp, hb⟩ := riseK_facts h.2.2.2
  unfold PS.has hasK
  rw [Bool.eq_iff_iff, List.any_eq_true, List.contains_iff_mem]
  constructor
  · rintro ⟨q, hq, e⟩
    obtain ⟨y, hy, rfl⟩ := List.mem_map.1 hq
    have := hb y hy
    rw [beq_iff_eq] at e
    have e' : (y.toNat : Int) = x := e
    obtain rfl : y = x := by omega
    exact hy
  · intro hx
    have := hb x hx
    refine ⟨(x.toNat, 0), List.mem_map.2 ⟨x, hx, rfl⟩, ?_⟩
    rw [beq_iff_eq]; show (x.toNat : Int) = x; omega
theorem nums_back {free : List Int} {v : Int} (h : ∀ x ∈ free, 0 ≤ x) : nums (back free v) = free := by
  unfold nums back
  rw [List.map_map]
  conv => rhs; rw [← List.map_id free]
  refine List.map_congr_left fun x hx => ?_
  have := h x hx
  show (x.toNat : Int) = x; omega

def fineStep (count : Int) (free : List Int) (b : Bool) (x : Int) : Bool := b && !hasK free x && decide (2 ≤ x) && decide (x < count)
def fineB (count : Int) (free gone : List Int) (d : Int) : Bool := decide (0 ≤ d) && riseL gone && gone.all (fun x => !hasK free x && decide (2 ≤ x) && decide (x < count))

theorem fine_iff {count cap : Int} {free gone : List Int} {d : Int} (h : newOk count cap free) : fineB count free gone d = true ↔ 0 ≤ d ∧ riseK count 1 gone = true ∧ gone.any (PS.new count cap free).has = false := by
  unfold fineB
  simp only [Bool.and_eq_true, decide_eq_true_eq, riseL_iff, riseK_iff, List.all_eq_true, List.any_eq_false, Bool.not_eq_true']
  constructor
  · rintro ⟨⟨h1, h2⟩, h3⟩
    exact ⟨h1, ⟨h2, fun x hx => by have := h3 x hx; omega⟩, fun x hx => by rw [new_has h, (h3 x hx).1.1]; simp⟩
  · rintro ⟨h1, ⟨h2, h4⟩, h3⟩
    exact ⟨⟨h1, h2⟩, fun x hx => ⟨⟨by have := h3 x hx; rw [new_has h] at this; simpa using this, by have := h4 x hx; omega⟩, (h4 x hx).2⟩⟩

theorem least_spec (all usable : Nat) (d : Int) (hd : 0 ≤ d) : ∀ n f, f + n = all + 1 → f ≤ all → (∀ g, g < f → needs all usable d g = false) → needs all usable d (least all usable d n f) = true ∧ ∀ g, g < least all usable d n f → needs all usable d g = false := by
  intro n
  induction n with
  | zero => intro f h1 h2; omega
  | succ n ih =>
    intro f h1 h2 h3
    unfold least
    by_cases h : needs all usable d f = true
    · rw [if_pos h]; exact ⟨h, h3⟩
    · rw [if_neg h]
      refine ih (f + 1) (by omega) ?_ ?_
      · rcases Nat.lt_or_ge f all with h4 | h4
        · omega
        · have : f = all := by omega
          rw [this, needs_all all usable d hd] at h; exact (h rfl).elim
      · intro g hg
        rcases Nat.lt_or_ge g f with h4 | h4
        · exact h3 g h4
        · have : g = f := by omega
          rw [this]; simpa using h

/-- What the law asks of the answer. -/
structure ListsOk (n m : Nat) (d : Int) (f : Nat) : Prop where
  most : (f : Int) ≤ ((n : Int) + m + 1020) / 1021
  fits : (n : Int) - min (n : Int) (min d 1099511627776 + f) + m ≤ 1021 * (f : Int)
  less : f = 0 ∨ 1021 * ((f : Int) - 1) < (n : Int) - min (n : Int) (min d 1099511627776 + f - 1) + m

theorem lists_yes {count cap : Int} {free gone : List Int} {d : Int} (h : newOk count cap free) (hf : fineB count free gone d = true) (hn : free.length ≤ 4000) (hm : gone.length ≤ 4000) :
    ∃ f : Nat, (PS.new count cap free).lists d gone = f ∧ f ≤ 8000 ∧ ListsOk free.length gone.length d f := by
  obtain ⟨h1, h2, h3⟩ := (fine_iff h).1 hf
  obtain ⟨s1, s2⟩ := least_spec (free.length + gone.length) free.length d h1 (free.length + gone.length + 1) 0 (by omega) (by omega) (fun g hg => by omega)
  have s3 := least_le (free.length + gone.length) free.length d h1 (free.length + gone.length + 1) 0 (by omega) (by omega)
  have hL : (PS.new count cap free).lists d gone = (least (free.length + gone.length) free.length d (free.length + gone.length + 1) 0 : Nat) := by
    unfold PS.lists
    have hc : ((PS.new count cap free).size : Int) = count := by have := h.1; show (count.toNat : Int) = count; omega
    rw [if_neg (by omega), if_neg (by rw [hc, h2]; simp), if_neg (by rw [h3]; simp)]
    unfold PS.pagesOf
    rw [new_usable, back_length]
    show ((least ((back free 0).length + gone.length) free.length d ((back free 0).length + gone.length + 1) 0 : Nat) : Int) = _
    rw [back_length]
  refine ⟨_, hL, by omega, ?_⟩
  generalize hfe : least (free.length + gone.length) free.length d (free.length + gone.length + 1) 0 = f at s1 s2 s3 ⊢
  generalize free.length = n at *
  generalize gone.length = m at *
  have a1 : ((n + m : Nat) : Int) - taken n d f ≤ (f : Int) * 1021 := of_decide_eq_true s1
  have a2 : ∀ g, g < f → ¬ ((n + m : Nat) : Int) - taken n d g ≤ (g : Int) * 1021 := fun g hg => of_decide_eq_false (s2 g hg)
  refine ⟨?_, ?_, ?_⟩
  · rcases Nat.lt_or_ge ((n + m + 1020) / 1021) f with h5 | h5
    · have := a2 _ h5
      have := taken_bounds n d ((n + m + 1020) / 1021) h1
      omega
    · omega
  · unfold taken at a1
    split at a1 <;> omega
  · rcases Nat.eq_zero_or_pos f with h5 | h5
    · exact .inl h5
    · right
      have := a2 (f - 1) (by omega)
      unfold taken at this
      split at this <;> omega

theorem lists_no {count cap : Int} {free gone : List Int} {d : Int} (h : newOk count cap free) (hf : fineB count free gone d = false) : (PS.new count cap free).lists d gone = -1 := by
  have hc : ((PS.new count cap free).size : Int) = count := by have := h.1; show (count.toNat : Int) = count; omega
  unfold PS.lists
  split
  · rfl
  split
  · rfl
  split
  · rfl
  rename_i h1 h2 h3
  rw [hc] at h2
  rw [(fine_iff h).2 ⟨by omega, by simpa using h2, by simpa using h3⟩] at hf
  cases hf
end Go.Proofs.Ytipclbibomemjaa
