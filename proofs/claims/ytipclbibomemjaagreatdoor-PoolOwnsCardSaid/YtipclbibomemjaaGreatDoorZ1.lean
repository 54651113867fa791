/- Words and walks that other texts of this seat hold, taken together. (Taken by pick.py.) -/
import Derived.Test.YtipclbibomemjaaGreatDoorU13
import Derived.OpenShut
namespace Go.Proofs.YtipclbibomemjaaGreatDoor
open Go Go.RowKit Go.Maps

def fitsB (cap : Int) (n : Nat) : Bool := decide (cap ≤ 20000 ∧ n ≤ 4000)

theorem fits_any (w : World) (cap : Int) (a : Option Addr) (n c : Nat) : Calls Tryz.prog 5 #[.int .i64 cap, .slice a n c] w fun e w' => e = .returned (.bool (fitsB cap n)) ∧ w = w' := by
  by_cases h1 : cap ≤ 20000
  · by_cases h2 : n ≤ 4000
    · have h3 : (n : Int) ≤ 4000 := by omega
      have HF : Hid (fitsB cap n = true) := Lib.hid (decide_eq_true ⟨h1, h2⟩)
      go_enter Tryz.func5, Tryz.ntmps5
      go_wp2
      go_ret
      exact ⟨by rw [HF.out]; rfl, rfl⟩
    · have h3 : ¬ (n : Int) ≤ 4000 := by omega
      have HF : Hid (fitsB cap n = false) := Lib.hid (decide_eq_false (fun h => h2 h.2))
      go_enter Tryz.func5, Tryz.ntmps5
      go_wp2
      go_ret
      exact ⟨by rw [HF.out]; rfl, rfl⟩
  · have HF : Hid (fitsB cap n = false) := Lib.hid (decide_eq_false (fun h => h1 h.1))
    go_enter Tryz.func5, Tryz.ntmps5
    go_wp2
    go_ret
    exact ⟨by rw [HF.out]; rfl, rfl⟩

def hasK (zs : List Int) (x : Int) : Bool := zs.contains x

theorem riseK_iff (count last : Int) (zs : List Int) : riseK count last zs = true ↔ zs.Pairwise (fun a b => a < b) ∧ ∀ x ∈ zs, last < x ∧ x < count := by
  refine ⟨riseK_facts, ?_⟩
  rintro ⟨h1, h2⟩
  induction zs generalizing last with
  | nil => rfl
  | cons y zs ih =>
    obtain ⟨a, b⟩ := List.pairwise_cons.1 h1
    have hy := h2 y (by simp)
    unfold riseK
    rw [if_neg (by omega)]
    exact ih y b (fun x hx => ⟨a x hx, (h2 x (by simp [hx])).2⟩)

theorem back_length (zs : List Int) (v : Int) : (back zs v).length = zs.length := List.length_map _

theorem new_ok {count cap : Int} {free : List Int} (h : newOk count cap free) : (PS.new count cap free).ok := by
  obtain ⟨h1, h2, h3, h4⟩ := h
  obtain ⟨hp, hb⟩ := riseK_facts h4
  refine ⟨?_, fun q hq => ?_, fun q hq => ?_, ?_, fun q hq => ?_⟩
  · show (back free 0).Pairwise _
    unfold back
    rw [List.pairwise_map]
    exact hp.imp_of_mem (fun {a b} ha hb' hab => by have := hb a ha; have := hb b hb'; show a.toNat < b.toNat; omega)
  · obtain ⟨x, hx, rfl⟩ := List.mem_map.1 hq
    have := hb x hx
    show 2 ≤ x.toNat; omega
  · obtain ⟨x, hx, rfl⟩ := List.mem_map.1 hq
    have := hb x hx
    show x.toNat < count.toNat; omega
  · show count.toNat ≤ 1000000; omega
  · obtain ⟨x, hx, rfl⟩ := List.mem_map.1 hq
    show (0 : Int) ≤ _; omega

set_option maxRecDepth 100000 in
set_option maxHeartbeats 1000000 in
theorem rises_any (w : World) (v : Value) (zs : List Int) (h : SeesI w v zs) (count : Int) (hl : zs.length ≤ 1000000) :
    Calls Tryz.prog 22 #[v, .int .i64 count] w fun e w' => e = .returned (.bool (riseK count 1 zs)) ∧ Chg (fun _ => False) w w' := by
  have HS := Lib.hid h
  obtain ⟨a, c, rfl, hn, hc⟩ := h
  have Hn := Lib.hid hn
  clear hn hc
  go_enter Tryz.func22, Tryz.ntmps22
  go_wp2_with fail
  go_loopg [5] zs.length (fun gm iv wr => ∃ (k : Nat) (last : Int), k ≤ zs.length ∧ gm = zs.length - k ∧ iv = .int .i64 k ∧ Chg (fun _ => False) w wr ∧ 1 ≤ last ∧ (k = 0 ∨ zs[k - 1]? = some last) ∧ riseK count last (zs.drop k) = riseK count 1 zs)
  case atStart => exact ⟨0, 1, by omega, rfl, rfl, Chg.refl _ _, by omega, .inl rfl, rfl⟩
  case round =>
    obtain ⟨k, last, hk, hg, rfl, hch, hl1, hl2, hr⟩ := hrel
    have Hg := Lib.hid hg
    have Hr := Lib.hid hr
    have HCh := Lib.hid hch
    have HL2 := Lib.hid hl2
    clear hg hr hl2
    by_cases hlt : k < zs.length
    · obtain ⟨x, hx⟩ : ∃ x, zs[k]? = some x := ⟨_, List.getElem?_eq_getElem hlt⟩
      have HX := Lib.hid hx
      have HD := Lib.hid (drop_cons hx)
      obtain ⟨ad, rfl⟩ : ∃ ad, a = some ad := by
        cases a with
        | none => have := Hn.out rfl; subst this; simp at hlt
        | some ad => exact ⟨ad, rfl⟩
      have hcell : ∀ (j : Nat) (y : Int), zs[j]? = some y → wr.cell? (ad.add j) = some (.int .i64 y) := by
        obtain ⟨a4, c4, e4, _, h4⟩ := HS.out.chg0 hch
        cases e4
        exact h4 ad rfl
      have cx := hcell k x hx
      have HCell := Lib.hid hcell
      have hki : (k : Int) < (zs.length : Int) := by omega
      have hk0 : (0 : Int) ≤ (k : Int) := by omega
      clear hx hch hcell
      by_cases t1 : x < 2
      · have HF : Hid (riseK count 1 zs = false) := Lib.hid (by rw [← Hr.out, HD.out]; unfold riseK; rw [if_pos (.inl (by omega))])
        go_wp2_with fail
        go_quiet (fail)
        go_wp2_with fail
        go_ret
        exact ⟨by rw [HF.out]; rfl, HCh.out.drewN _⟩
      · by_cases t2 : count ≤ x
        · have HF : Hid (riseK count 1 zs = false) := Lib.hid (by rw [← Hr.out, HD.out]; unfold riseK; rw [if_pos (.inr t2)])
          have b1 : decide (x < 2) = false := decide_eq_false t1
          have b2 : decide (count ≤ x) = true := decide_eq_true t2
          clear t1 t2
          go_wp2_with fail
          go_quiet (fail)
          go_wp2_with fail
          go_ret
          exact ⟨by rw [HF.out]; rfl, HCh.out.drewN _⟩
        · by_cases t3 : k = 0
          · have HF : Hid (riseK count x (zs.drop (k + 1)) = riseK count 1 zs) := Lib.hid (by
              have h0 : zs.drop k = zs := by rw [t3]; rfl
              have e : riseK count 1 (x :: zs.drop (k + 1)) = riseK count x (zs.drop (k + 1)) := by conv => lhs; unfold riseK; rw [if_neg (by omega)]
              rw [← e, ← HD.out, h0])
            have b4 : decide (0 < k) = false := decide_eq_false (by omega)
            have b1 : decide (x < 2) = false := decide_eq_false t1
            have b2 : decide (count ≤ x) = false := decide_eq_false t2
            have hx1 : 1 ≤ x := by omega
            clear t3 t1 t2
            go_wp2_with fail
            go_quiet (fail)
            go_wp2_with fail
            go_roundg (zs.length - (k + 1))
            case measure => have := Hg.out; omega
            case rel => exact ⟨k + 1, x, by omega, rfl, by go_num, HCh.out.drewN _, by omega, .inr (by rw [Nat.add_sub_cancel]; exact HX.out), HF.out⟩
          · obtain ⟨m, hm⟩ : ∃ m, k = m + 1 := ⟨k - 1, by omega⟩
            have hlast : zs[m]? = some last := by
              have := HL2.out.resolve_left t3
              rw [hm, Nat.add_sub_cancel] at this; exact this
            have cm := HCell.out m last hlast
            have hw1 : IntKind.i64.wrap ((k : Int) - 1) = (m : Int) := by rw [wrapI (by omega) (by omega)]; omega
            have hki' : (m : Int) < (zs.length : Int) := by omega
            have hk0' : (0 : Int) ≤ (m : Int) := by omega
            have b4 : decide (0 < k) = true := decide_eq_true (by omega)
            have b1 : decide (x < 2) = false := decide_eq_false t1
            have b2 : decide (count ≤ x) = false := decide_eq_false t2
            have hx1 : 1 ≤ x := by omega
            clear hlast hm t3 t1 t2
            by_cases t5 : x ≤ last
            · have b5 : decide (x ≤ last) = true := decide_eq_true t5
              have HF : Hid (riseK count 1 zs = false) := Lib.hid (by rw [← Hr.out, HD.out]; unfold riseK; rw [if_pos (.inl t5)])
              clear t5
              go_wp2_with fail
              go_quiet (fail)
              go_wp2_with fail
              go_ret
              exact ⟨by rw [HF.out]; rfl, HCh.out.drewN _⟩
            · have HF : Hid (riseK count x (zs.drop (k + 1)) = riseK count 1 zs) := Lib.hid (by
                rw [← Hr.out, HD.out]; conv => rhs; unfold riseK; rw [if_neg (by have := of_decide_eq_false b2; omega)])
              have b5 : decide (x ≤ last) = false := decide_eq_false t5
              clear t5
              go_wp2_with fail
              go_quiet (fail)
              go_wp2_with fail
              go_roundg (zs.length - (k + 1))
              case measure => have := Hg.out; omega
              case rel => exact ⟨k + 1, x, by omega, rfl, by go_num, HCh.out.drewN _, by omega, .inr (by rw [Nat.add_sub_cancel]; exact HX.out), HF.out⟩
    · have HF : Hid (riseK count 1 zs = true) := Lib.hid (by rw [← Hr.out, List.drop_eq_nil_of_le (by omega)]; rfl)
      clear hch
      go_wp2_with fail
      go_ret
      exact ⟨by rw [HF.out]; rfl, HCh.out⟩

theorem NewI.nil (w wr : World) : NewI w wr (.slice none 0 0) [] := ⟨World.ownsRow_nil _ _ _ _, fun g e => by simp [Value.ownBlock] at e⟩

theorem NewI.slice {w wr : World} {v : Value} {zs : List Int} (h : NewI w wr v zs) : ∃ a c, v = .slice a zs.length c := by
  obtain ⟨a, c, rfl, _⟩ := ownsRow_slice h.1
  exact ⟨a, c, rfl⟩

set_option maxRecDepth 100000 in
theorem rnew_no (w : World) (v : Value) (zs : List Int) (h : SeesI w v zs) (count cap : Int) (hl : zs.length ≤ 1000000) (hno : ¬ newOk count cap zs) :
    Calls Tryz.prog 8 #[.int .i64 count, .int .i64 cap, v] w fun e w' => e = .returned (.pointer none) ∧ Chg (fun _ => False) w w' := by
  have HS := Lib.hid h
  obtain ⟨a, c, rfl, _⟩ := h
  unfold newOk at hno
  by_cases h1 : count < 2
  · clear hno
    go_enter Tryz.func8, Tryz.ntmps8
    go_wp2
    go_ret
    exact ⟨rfl, Chg.refl _ _⟩
  · by_cases h2 : cap < count
    · clear hno
      go_enter Tryz.func8, Tryz.ntmps8
      go_wp2
      go_ret
      exact ⟨rfl, Chg.refl _ _⟩
    · by_cases h3 : 524287 < cap
      · clear hno
        go_enter Tryz.func8, Tryz.ntmps8
        go_wp2
        go_ret
        exact ⟨rfl, Chg.refl _ _⟩
      · have hr : riseK count 1 zs = false := by
          cases e : riseK count 1 zs with
          | false => rfl
          | true => exact (hno ⟨by omega, by omega, by omega, e⟩).elim
        have HR := Lib.hid hr
        clear hno hr
        go_enter Tryz.func8, Tryz.ntmps8
        go_wp2_with (go_at_call 22; refine (rises_any _ _ zs HS.out _ hl).mono ?_; rintro e w' ⟨rfl, hc⟩; rw [HR.out])
        go_ret
        exact ⟨rfl, hc⟩

/-- What is given out of n, so far. -/
def giv (us : List Int) (size k : Nat) : List Int := us.take k ++ news size (k - us.length)

theorem giv_length (us : List Int) (size k : Nat) : (giv us size k).length = k := by
  unfold giv; rw [List.length_append, List.length_take, news_length]; omega

theorem giv_given (P : PS) (d : Int) (gone : List Int) : giv (nums P.usable) P.size (P.wants d gone) = P.given d gone := by
  unfold giv PS.given PS.old; rw [nums_length]

section
variable {w w' : World} {T T2 : Nat → Prop} {b pb m1 m2 rb : Nat} {P P' : PS}
variable {w : World} {rb : Nat} {P : PS}
variable {w : World} {pb m1 m2 : Nat} {P : PS}
/-- What a script keeps small. -/
structure PS.small (P : PS) : Prop where
  ok : P.ok
  cap : P.cap ≤ 600000
  pins : P.pins.length < 1000000
  wr : P.wr < 1000000

theorem free_p (h : PoolF w pb m1 m2 P) (hok : P.small) {zs : List Int} (hz : nums P.free = zs) : Calls Tryz.prog 13 #[.pointer (some ⟨pb, 0, none⟩)] w fun e w' => ∃ a c, e = .returned (.slice a zs.length c) ∧ NewI w w' (.slice a zs.length c) zs ∧ Chg (fun _ => False) w w' := by
  refine (free_any w pb m1 m2 P h hok.ok).mono ?_
  rintro e w' ⟨v, rfl, hN, hc⟩
  rw [hz] at hN
  obtain ⟨a, c, rfl⟩ := hN.slice
  exact ⟨a, c, rfl, hN, hc⟩

theorem usable_p (h : PoolF w pb m1 m2 P) (hok : P.small) {zs : List Int} (hz : nums P.usable = zs) : Calls Tryz.prog 14 #[.pointer (some ⟨pb, 0, none⟩)] w fun e w' => ∃ a c, e = .returned (.slice a zs.length c) ∧ NewI w w' (.slice a zs.length c) zs ∧ Chg (fun _ => False) w w' := by
  refine (usable_any w pb m1 m2 P h hok.ok).mono ?_
  rintro e w' ⟨v, rfl, hN, hc⟩
  rw [hz] at hN
  obtain ⟨a, c, rfl⟩ := hN.slice
  exact ⟨a, c, rfl, hN, hc⟩
end

theorem new_small {count cap : Int} {free : List Int} (h : newOk count cap free) : (PS.new count cap free).small :=
  ⟨new_ok h, by have := h.2.2.1; show cap.toNat ≤ 600000; omega, by show 0 < 1000000; omega, by show 0 < 1000000; omega⟩

def TrueB (w : World) (e : Ending) (w' : World) : Prop := e = .returned (.bool true) ∧ Below w.heap.size w w'

theorem TrueB.mk {w w' : World} (h : Below w.heap.size w w') : TrueB w (.returned (.bool true)) w' := ⟨rfl, h⟩

theorem below_chg {w wa wb : World} (h : Below w.heap.size w wa) (hc : Chg (fun _ => False) wa wb) : Below w.heap.size w wb := h.trans ((hc.toBelow (fun _ f => f.elim)).mono h.size)

section
variable {w : World} {T : Nat → Prop} {rb : Nat} {P : PS}
structure PS.fit (P : PS) (n : Nat) : Prop where
  ok : P.ok
  cap : P.cap ≤ 600000
  size : P.size ≤ P.cap
  pins : P.pins.length ≤ n
  wr : P.wr ≤ n

theorem PS.fit.small {P : PS} {n : Nat} (h : P.fit n) (hn : n < 1000000) : P.small := ⟨h.ok, h.cap, Nat.lt_of_le_of_lt h.pins hn, Nat.lt_of_le_of_lt h.wr hn⟩

theorem PS.fit.mono {P : PS} {n m : Nat} (h : P.fit n) (hn : n ≤ m) : P.fit m := ⟨h.ok, h.cap, h.size, Nat.le_trans h.pins hn, Nat.le_trans h.wr hn⟩

theorem new_fit {count cap : Int} {free : List Int} (h : newOk count cap free) : (PS.new count cap free).fit 0 :=
  ⟨new_ok h, by have := h.2.2.1; show cap.toNat ≤ 600000; omega, by have := h.1; have := h.2.1; show count.toNat ≤ cap.toNat; omega, Nat.le_refl _, Nat.le_refl _⟩

/-- One call. -/
def PS.does (P : PS) (kind a b : Int) (gone : List Int) : PS :=
  if kind = 1 then { P with pins := P.pins ++ [a], wr := P.wr + 1 }
  else if kind = 2 then { P with pins := P.pins.erase a, wr := P.wr + 1 }
  else if kind = 5 then (P.commit a gone b).2.2 else P

theorem after_fit {P : PS} {n : Nat} (h : P.fit n) {d : Int} {gone : List Int} {ver : Int} (hv : (Lit.int .i64 ver).wf = true) (hf0 : 0 ≤ P.lists d gone) (hf1 : d ≤ P.room - P.lists d gone) : (P.after d gone ver).fit n := by
  obtain ⟨hd0, hrise, hany⟩ := lists_facts hf0
  obtain ⟨g1, g2⟩ := riseK_facts hrise
  have hsz : P.size + (P.wants d gone - P.usable.length) ≤ P.cap := by
    unfold PS.wants
    unfold PS.room at hf1
    have := h.size
    omega
  have hno : ∀ x ∈ gone, ∀ q ∈ P.free, (q.1 : Int) ≠ x := fun x hx q hq e => by
    have h1 := List.any_eq_false.1 hany x hx
    apply h1
    unfold PS.has
    rw [List.any_eq_true]
    exact ⟨q, hq, by rw [beq_iff_eq]; exact e⟩
  have hmem : ∀ q ∈ (P.after d gone ver).free, q ∈ P.free ∨ ∃ x ∈ gone, q = (x.toNat, ver) := fun q hq => by
    have h1 := (List.mergeSort_perm _ leQ).mem_iff.1 hq
    rcases List.mem_append.1 h1 with e | e
    · exact .inl (List.mem_filter.1 e).1
    · obtain ⟨x, hx, rfl⟩ := List.mem_map.1 e
      exact .inr ⟨x, hx, rfl⟩
  have hne : (stays P.free (P.old d gone) ++ back gone ver).Pairwise fun p q => p.1 ≠ q.1 := by
    rw [List.pairwise_append]
    refine ⟨stays_pair h.ok _, ?_, fun p hp q hq => ?_⟩
    · unfold back
      rw [List.pairwise_map]
      exact g1.imp_of_mem (fun {a b} ha hb hab => by have := (g2 a ha).1; have := (g2 b hb).1; show a.toNat ≠ b.toNat; omega)
    · obtain ⟨x, hx, rfl⟩ := List.mem_map.1 hq
      have h1 := hno x hx p (List.mem_filter.1 hp).1
      have := (g2 x hx).1
      show p.1 ≠ x.toNat
      omega
  refine ⟨⟨?_, fun q hq => ?_, fun q hq => ?_, ?_, fun q hq => ?_⟩, h.cap, hsz, h.pins, h.wr⟩
  · have h1 : (P.after d gone ver).free.Pairwise fun p q => p.1 ≠ q.1 := ((List.mergeSort_perm _ leQ).pairwise_iff (fun {a b} h e => h e.symm)).2 hne
    have h2 : (P.after d gone ver).free.Pairwise fun p q => leQ p q = true := List.pairwise_mergeSort (fun a b c h1 h2 => by simp only [leQ, decide_eq_true_eq] at *; omega) (fun a b => by simp only [leQ, Bool.or_eq_true, decide_eq_true_eq]; omega) _
    exact (h1.and h2).imp (fun ⟨a, b⟩ => by simp only [leQ, decide_eq_true_eq] at b; omega)
  · rcases hmem q hq with e | ⟨x, hx, rfl⟩
    · exact h.ok.lo q e
    · have := (g2 x hx).1; show 2 ≤ x.toNat; omega
  · have hs : (P.after d gone ver).size = P.size + (P.wants d gone - P.usable.length) := rfl
    rw [hs]
    rcases hmem q hq with e | ⟨x, hx, rfl⟩
    · have := h.ok.hi q e; omega
    · have := (g2 x hx).2; have := (g2 x hx).1; show x.toNat < _; omega
  · have hs : (P.after d gone ver).size = P.size + (P.wants d gone - P.usable.length) := rfl
    rw [hs]
    have := h.cap
    omega
  · rcases hmem q hq with e | ⟨x, hx, rfl⟩
    · exact h.ok.since q e
    · have := bounds_i64 hv; exact this.2

theorem commit_fit {P : PS} {n : Nat} (h : P.fit n) {d : Int} {gone : List Int} {ver : Int} (hv : (Lit.int .i64 ver).wf = true) : (P.commit d gone ver).2.2.fit n := by
  unfold PS.commit
  split
  · exact h
  split
  · exact h
  · exact after_fit h hv (by omega) (by omega)

theorem does_fit {P : PS} {n : Nat} (h : P.fit n) (kind a b : Int) (gone : List Int) (hb : (Lit.int .i64 b).wf = true) : (P.does kind a b gone).fit (n + 1) := by
  unfold PS.does
  split
  · refine ⟨⟨h.ok.rise, h.ok.lo, h.ok.hi, h.ok.size, h.ok.since⟩, h.cap, h.size, ?_, ?_⟩
    · rw [List.length_append]; have := h.pins; simp; omega
    · have := h.wr; show P.wr + 1 ≤ n + 1; omega
  split
  · refine ⟨⟨h.ok.rise, h.ok.lo, h.ok.hi, h.ok.size, h.ok.since⟩, h.cap, h.size, ?_, ?_⟩
    · exact Nat.le_trans List.length_erase_le (Nat.le_succ_of_le h.pins)
    · have := h.wr; show P.wr + 1 ≤ n + 1; omega
  split
  · exact (commit_fit h hb).mono (Nat.le_succ n)
  · exact h.mono (Nat.le_succ n)
end

/-- One call of a script. -/
structure OpD where
  kind : Int
  a : Int
  b : Int
  gone : List Int
  second : Bool

structure OpD.ok (o : OpD) : Prop where
  a : (Lit.int .i64 o.a).wf = true
  b : (Lit.int .i64 o.b).wf = true
  gone : ∀ x ∈ o.gone, (Lit.int .i64 x).wf = true

theorem commit_len {P : PS} (hok : P.ok) (hcap : P.cap ≤ 1000000) {d : Int} {gone : List Int} {ver : Int} {zs : List Int} {c : Int} {P' : PS} (hC : P.commit d gone ver = (zs, c, P')) : zs.length ≤ 3000000 := by
  unfold PS.commit at hC
  split at hC
  · cases hC; simp
  split at hC
  · cases hC; simp
  · cases hC
    rename_i h1 h2
    rw [← giv_given, giv_length]
    unfold PS.wants
    unfold PS.room at h2
    have := usable_len hok
    have := hok.size
    omega

theorem commit_p {w : World} {pb m1 m2 : Nat} {P : PS} (h : PoolF w pb m1 m2 P) (hok : P.small) (d : Int) (hd : (Lit.int .i64 d).wf = true) {v : Value} {gone : List Int} (hs : SeesI w v gone) (hl : gone.length ≤ 1000000) (hwf : ∀ x ∈ gone, (Lit.int .i64 x).wf = true) (ver : Int) (hver : (Lit.int .i64 ver).wf = true)
    (hfar : ∀ ad n c, v = .slice (some ad) n c → gone ≠ [] → ad.block ≠ pb ∧ ad.block ≠ m1 ∧ ad.block < w.heap.size) {zs : List Int} {c : Int} {P' : PS} (hC : P.commit d gone ver = (zs, c, P')) :
    Calls Tryz.prog 11 #[.pointer (some ⟨pb, 0, none⟩), .int .i64 d, v, .int .i64 ver] w fun e w' => ∃ a cp, e = .returned (.tuple #[.slice a zs.length cp, .int .i64 c]) ∧ NewI w w' (.slice a zs.length cp) zs ∧ PoolF w' pb m1 m2 P' ∧ Chg (fun k => k = pb ∨ k = m1) w w' := by
  have hb := bounds_i64 hd
  have hcap : P.cap ≤ 1000000 := Nat.le_trans hok.cap (by omega)
  by_cases hno : P.lists d gone < 0 ∨ P.room - P.lists d gone < d
  · refine (commit_no w pb m1 m2 P h hok.ok hcap d hb.2 hb.1 v gone hs hl hwf ver hno (lists_le hok.ok d hl)).mono ?_
    rintro e w' ⟨rfl, e1, e2, hc⟩
    rw [hC] at e1 e2 ⊢
    obtain rfl : P' = P := e1
    obtain rfl : zs = [] := e2
    exact ⟨none, 0, rfl, ⟨World.ownsRow_nil _ _ _ _, fun g e => by simp [Value.ownBlock] at e⟩, h.chg0 hc, hc.mono (fun _ f => f.elim)⟩
  · refine (commit_yes w pb m1 m2 P h hok.ok hcap d v gone hs hl hwf ver hver hfar (by omega) (by omega) (lists_le hok.ok d hl)).mono ?_
    rintro e w' ⟨v', rfl, hN, hq, hc⟩
    unfold PS.commit at hC
    rw [if_neg (by omega), if_neg (by omega)] at hC
    cases hC
    obtain ⟨a, cp, rfl⟩ := hN.slice
    exact ⟨a, cp, rfl, hN, hq, hc⟩

/-- A script's calls as they lie. -/
def OpsA (w : World) (v : Value) (os : List OpD) : Prop :=
  ∃ a cap, v = .slice a os.length cap ∧ (0 < os.length → ∃ g off, a = some ⟨g, off, none⟩ ∧ ∀ (i : Nat) (o : OpD), os[i]? = some o → ∃ ga gc,
    w.cell? ⟨g, off + i * 5, none⟩ = some (.int .i64 o.kind) ∧ w.cell? ⟨g, off + i * 5 + 1, none⟩ = some (.int .i64 o.a) ∧ w.cell? ⟨g, off + i * 5 + 2, none⟩ = some (.int .i64 o.b) ∧ w.cell? ⟨g, off + i * 5 + 3, none⟩ = some (.slice ga o.gone.length gc) ∧
    w.cell? ⟨g, off + i * 5 + 4, none⟩ = some (.bool o.second) ∧ SeesI w (.slice ga o.gone.length gc) o.gone ∧ o.ok)

theorem SeesI.old {w : World} {ga : Option Addr} {n c : Nat} {zs : List Int} (h : SeesI w (.slice ga n c) zs) : ∀ ad, ga = some ad → zs ≠ [] → ad.block < w.heap.size := by
  intro ad e hne
  obtain ⟨a, cap, e2, _, h2⟩ := h
  cases e2
  cases zs with
  | nil => exact (hne rfl).elim
  | cons x l =>
    have h3 := h2 ad e 0 x rfl
    have hlt := World.block_lt_of_cell? _ _ h3
    have hbk : (ad.add 0).block = ad.block := by unfold Addr.add; split <;> rfl
    rw [hbk] at hlt; exact hlt

end Go.Proofs.YtipclbibomemjaaGreatDoor
