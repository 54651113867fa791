/- Walks: Free, Usable. -/
import Derived.Test.YtipclbibomemjaaGreatDoorS1
import Derived.Deep.AppendLies
namespace Go.Proofs.YtipclbibomemjaaGreatDoor
open Go Go.RowKit Go.Maps

/-- The numbers collected so far. -/
structure Coll (M : DataW Unit) (left : Lit → Bool) (good : Int → Bool) (ss : List Int) : Prop where
  nodup : ss.Nodup
  mem : ∀ x, x ∈ ss ↔ (Maps.has M (kI x) = true ∧ good x = true ∧ left (kI x) = false)
theorem Coll.start (M : DataW Unit) (good : Int → Bool) : Coll M (Maps.has M) good [] :=
  ⟨List.nodup_nil, fun x => ⟨fun h => by simp at h, fun ⟨h1, _, h2⟩ => by rw [h1] at h2; cases h2⟩⟩
theorem left_step {left : Lit → Bool} {x : Int} (y : Int) : (left (kI y) && !(kI y).sameKey (kI x)) = false ↔ (left (kI y) = false ∨ y = x) := by
  by_cases e : y = x
  · subst e
    have : (kI y).sameKey (kI y) = true := by simp [Lit.sameKey]
    rw [this]; simp
  · rw [sameKey_ne (kI_ne e)]; simp [e]
theorem Coll.take {M : DataW Unit} {left : Lit → Bool} {good : Int → Bool} {ss : List Int} (h : Coll M left good ss) {x : Int} (hl : left (kI x) = true) (hh : Maps.has M (kI x) = true) (hg : good x = true) :
    Coll M (fun z => left z && !z.sameKey (kI x)) good (ss ++ [x]) := by
  refine ⟨?_, fun y => ?_⟩
  · rw [List.nodup_append]
    refine ⟨h.nodup, by simp, fun a ha b hb e => ?_⟩
    simp at hb
    subst hb; subst e
    have := ((h.mem a).1 ha).2.2
    rw [hl] at this; cases this
  · show _ ↔ (_ ∧ _ ∧ (left (kI y) && !(kI y).sameKey (kI x)) = false)
    rw [left_step, List.mem_append, h.mem]
    simp only [List.mem_singleton]
    constructor
    · rintro (⟨h1, h2, h3⟩ | rfl)
      · exact ⟨h1, h2, .inl h3⟩
      · exact ⟨hh, hg, .inr rfl⟩
    · rintro ⟨h1, h2, h3 | rfl⟩
      · exact .inl ⟨h1, h2, h3⟩
      · exact .inr rfl
theorem Coll.skip {M : DataW Unit} {left : Lit → Bool} {good : Int → Bool} {ss : List Int} (h : Coll M left good ss) {x : Int} (hg : good x = false) :
    Coll M (fun z => left z && !z.sameKey (kI x)) good ss := by
  refine ⟨h.nodup, fun y => ?_⟩
  show _ ↔ (_ ∧ _ ∧ (left (kI y) && !(kI y).sameKey (kI x)) = false)
  rw [left_step, h.mem]
  constructor
  · rintro ⟨h1, h2, h3⟩; exact ⟨h1, h2, .inl h3⟩
  · rintro ⟨h1, h2, h3 | rfl⟩
    · exact ⟨h1, h2, h3⟩
    · rw [hg] at h2; cases h2

def nums (L : List (Nat × Int)) : List Int := L.map fun q => (q.1 : Int)
theorem nums_length (L : List (Nat × Int)) : (nums L).length = L.length := List.length_map _

/-- Behind the sort. -/
theorem Coll.sorted {M : DataW Unit} {L : List (Nat × Int)} {left : Lit → Bool} {good : Int → Bool} {gq : Nat × Int → Bool} {ss : List Int} (h : Coll M left good ss) (hf : FreeOf M L) (hs : L.Pairwise fun p q => p.1 < q.1)
    (hl : ∀ kl, left kl = false) (hg : ∀ q ∈ L, good q.1 = gq q) : ss.mergeSort leI = nums (L.filter gq) ∧ ss.length = (L.filter gq).length := by
  have hsf : (nums (L.filter gq)).Pairwise (fun a b => a < b) := by
    unfold nums
    rw [List.pairwise_map]
    exact ((hs.filter gq)).imp (fun h => by omega)
  have hnd : (nums (L.filter gq)).Nodup := hsf.imp (fun h => by omega)
  have hp : ss.Perm (nums (L.filter gq)) := (List.perm_ext_iff_of_nodup h.nodup hnd).2 fun x => by
    rw [h.mem, hf.has]
    unfold nums
    rw [List.mem_map]
    constructor
    · rintro ⟨⟨q, h1, rfl⟩, h2, _⟩
      exact ⟨q, List.mem_filter.2 ⟨h1, by rw [← hg q h1]; exact h2⟩, rfl⟩
    · rintro ⟨q, h1, rfl⟩
      obtain ⟨h2, h3⟩ := List.mem_filter.1 h1
      exact ⟨⟨q, h2, rfl⟩, by rw [hg q h2]; exact h3, hl _⟩
  refine ⟨?_, by rw [hp.length_eq, nums_length]⟩
  refine List.Perm.eq_of_pairwise (le := fun a b => leI a b = true) (fun a b _ _ h1 h2 => ?_) (List.pairwise_mergeSort (fun a b c h1 h2 => ?_) (fun a b => ?_) ss) (hsf.imp fun h => ?_) ((List.mergeSort_perm ss leI).trans hp)
  · simp only [leI, decide_eq_true_eq] at h1 h2; omega
  · simp only [leI, decide_eq_true_eq] at *; omega
  · simp only [leI, Bool.or_eq_true, decide_eq_true_eq]; omega
  · simp only [leI, decide_eq_true_eq]; omega

/-- Numbers in new memory, or nil. -/
def NewI (w w' : World) (v : Value) (zs : List Int) : Prop := w'.ownsRow 0 3 1 v zs.length (zs.map (Value.int .i64)) ∧ ∀ g, v.ownBlock = some g → w.heap.size ≤ g
theorem info3 : (Tryz.prog.info? 3).map (fun i => (i.zero, i.size, i.bytes)) = some (some (.int .i64 0), 1, 8) := by kernel_rfl
theorem chg1 {w : World} {b o : Nat} (v : Value) : Chg (fun x => x = b) w (w.setCell ⟨b, o, none⟩ v) := (Chg.refl (fun x => x = b) w).setCell (p := ⟨b, o, none⟩) (Or.inl rfl) v
theorem addr_add (g o j : Nat) : (⟨g, o, none⟩ : Addr).add j = ⟨g, o + j, none⟩ := by simp [Addr.add]
theorem ownsRow_slice {w : World} {base : Nat} {e : TypeId} {sz : Nat} {v : Value} {n : Nat} {xs : List Value} (h : w.ownsRow base e sz v n xs) :
    ∃ a cap, v = .slice a n cap ∧ n ≤ cap ∧ cap ≤ maxLen ∧ (0 < n → ∃ g, a = some ⟨g, 0, none⟩) := by
  rcases h.2 with ⟨rfl, rfl⟩ | ⟨g, cap, cur, rfl, hg, hh, hn, hcap, _⟩
  · exact ⟨none, 0, rfl, Nat.le_refl _, by simp [maxLen], fun h => by omega⟩
  · exact ⟨some ⟨g, 0, none⟩, cap, rfl, hn, hcap, fun _ => ⟨g, rfl⟩⟩
theorem NewI.sort {w0 w : World} {v : Value} {ss : List Int} (h : NewI w0 w v ss) (hl : ss.length < 4611686018427387904) :
    Calls Tryz.prog 23 #[v] w fun e w' => e = .returned (.tuple #[]) ∧ NewI w0 w' v (ss.mergeSort leI) ∧ Chg (fun k => w0.heap.size ≤ k) w w' := by
  obtain ⟨h1, h2⟩ := h
  have hlen : (ss.mergeSort leI).length = ss.length := List.length_mergeSort ss
  rcases h1.2 with ⟨rfl, h3⟩ | ⟨g, cap, cur, rfl, h3⟩
  · have hs : ss = [] := List.eq_nil_of_length_eq_zero h3
    subst hs
    refine (sort_nil w none 0).mono ?_
    rintro e w' ⟨rfl, rfl⟩
    exact ⟨rfl, ⟨by simpa using h1, h2⟩, Chg.refl _ _⟩
  · have hge := h2 g rfl
    refine (sort_own w g cap ss h1 hl).mono ?_
    rintro e w' ⟨rfl, r, c⟩
    exact ⟨rfl, ⟨by rw [hlen]; exact r, h2⟩, c.mono (fun k e => by have : k = g := e; rw [this]; exact hge)⟩

structure PS.ok (P : PS) : Prop where
  rise : P.free.Pairwise fun p q => p.1 < q.1
  lo : ∀ q ∈ P.free, 2 ≤ q.1
  hi : ∀ q ∈ P.free, q.1 < P.size
  size : P.size ≤ 1000000
  since : ∀ q ∈ P.free, q.2 ≤ 9223372036854775807

theorem rising_len (L : List (Nat × Int)) (lo n : Nat) (hr : L.Pairwise fun p q => p.1 < q.1) (hl : ∀ q ∈ L, lo ≤ q.1) (hn : ∀ q ∈ L, q.1 < n) : L.length ≤ n - lo := by
  induction L generalizing lo with
  | nil => exact Nat.zero_le _
  | cons q L ih =>
    obtain ⟨h1, h2⟩ := List.pairwise_cons.1 hr
    have := ih (q.1 + 1) h2 (fun p hp => h1 p hp) (fun p hp => hn p (by simp [hp]))
    have a1 := hl q (by simp)
    have a2 := hn q (by simp)
    rw [List.length_cons]; omega
theorem PS.ok.len {P : PS} (h : P.ok) : P.free.length ≤ 1000000 := by
  have := rising_len P.free 2 P.size h.rise h.lo h.hi
  have := h.size
  omega

set_option maxRecDepth 100000 in
set_option maxHeartbeats 4000000 in
theorem free_any (w : World) (pb m1 m2 : Nat) (P : PS) (h : PoolF w pb m1 m2 P) (hok : P.ok) :
    Calls Tryz.prog 13 #[.pointer (some ⟨pb, 0, none⟩)] w fun e w' => ∃ v, e = .returned v ∧ NewI w w' v (nums P.free) ∧ Chg (fun _ => False) w w' := by
  obtain ⟨c0, c1, c2, c3, _⟩ := h.cells
  have hlt := h.lt
  have H := Lib.hid h
  obtain ⟨M1, hown, hM⟩ := h.fr
  have HM := Lib.hid hM
  have hsz := hM.size
  have hlen := hok.len
  have Hok := Lib.hid hok
  obtain ⟨i1, hi', hz0, hz1, hz2⟩ := info_parts info3
  clear h hM hok
  go_enter Tryz.func13, Tryz.ntmps13
  go_wp2_with (first
    | (at_len; refine wpList_len_own _ rfl _ 62 rfl 3 3 Tryz.underlying62 _ m1 _ _ rfl hown ?_; rw [hsz])
    | (at_make; refine wpList_make_own _ rfl _ _ 22 rfl 0 3 i1 (.int .i64 0) 1 Tryz.underlying22 hi' hz0 hz1 .i64 .i64 _ P.free.length rfl rfl (by simp) (by rw [hz2]; omega) (by unfold maxLen; omega) (Nat.zero_le _) ?_; intro wa hwa hga; have HWA := Lib.hid hwa; have hca : Chg (fun _ => False) w wa := (Chg.refl _ w).grown hga (fun k e => (by cases e)); have d2 : wa.cell? ⟨pb, 2, none⟩ = some (.map (some m1)) := (cell_chg hca hlt.1 (fun f => f)).trans c2; have HCA := Lib.hid hca; have hownA := ownsMap_chg hown hca (fun f => f); clear hwa hga hca)
    | (at_range; refine wpList_range_own _ rfl _ 62 rfl 3 3 law3 Tryz.underlying62 _ m1 _ _ rfl hownA ?_; intro w0 hrg0 hg0 hs0)
    | go_in)
  obtain ⟨r, hr⟩ : ∃ r, r = wa.heap.size := ⟨_, rfl⟩
  rw [← hr] at hrg0 ⊢
  have hrw : w.heap.size ≤ r := by rw [hr]; exact HCA.out.size
  have hge : ∀ g, (Value.slice (some ⟨w.heap.size, 0, none⟩) 0 P.free.length).ownBlock = some g → w.heap.size ≤ g ∧ g ≠ r := fun g e => by
    simp only [Value.ownBlock, Option.some.injEq] at e
    subst e
    refine ⟨Nat.le_refl _, fun e2 => ?_⟩
    rcases HWA.out.2 with ⟨e3, _⟩ | ⟨g', c', cur, e3, _, hh, _⟩
    · cases e3
    · cases e3; have := heap_lt hh; omega
  have HGE := Lib.hid hge
  have HRW := Lib.hid hrw
  have hc0 : Chg (fun _ => False) w w0 := HCA.out.grown hg0 (fun k e => by cases e)
  clear hge hr
  go_frame
  go_loopw [3, 4] (fun lv _ wr => ∃ (left : Lit → Bool) (cnt : Nat) (ss : List Int) (a : Option Addr) (cap : Nat), lv = .slice a ss.length cap ∧ wr.ranges Tryz.prog 3 RI m1 r P.free.length M1 left cnt ∧ Coll M1 left (fun _ => true) ss ∧ ss.length + cnt ≤ P.free.length ∧
      wr.ownsRow 0 3 1 (.slice a ss.length cap) ss.length (ss.map (Value.int .i64)) ∧ (∀ g, (Value.slice a ss.length cap).ownBlock = some g → w.heap.size ≤ g ∧ g ≠ r) ∧ Chg (fun _ => False) w wr)
    (fun _ _ wr => wr.rangeLeft m1 r)
  case atStart => exact ⟨_, _, [], _, _, rfl, hrg0, Coll.start _ _, by simp [hsz], ownsRow_chg HWA.out ((Chg.refl (fun _ => False) wa).grown hg0 (fun k e => by cases e)) (fun _ _ f => f), HGE.out, hc0⟩
  case round =>
    obtain ⟨left, cnt, ss, a, cap, rfl, hrg, hC, hcn, hrow, hown2, hc⟩ := hrel
    have HC := Lib.hid hC
    have HRow := Lib.hid hrow
    have HO2 := Lib.hid hown2
    clear hC hrow hown2
    go_wp2_with (first
      | (at_next; refine wpList_next_ranges_ii _ rfl _ rfl 3 3 .i64 .i64 law3 Tryz.underlying3 Tryz.underlying3 m1 r P.free.length _ _ _ rfl hrg ?_ ?_)
      | go_in)
    · intro _ hl0
      have HS := Lib.hid (HC.out.sorted (gq := fun _ => true) HM.out Hok.out.rise hl0 (fun _ _ => rfl))
      have HN : Hid (NewI w wr (.slice a ss.length cap) ss) := Lib.hid ⟨HRow.out, fun g e => (HO2.out g e).1⟩
      have hsl : ss.length < 4611686018427387904 := by omega
      clear hl0
      go_wp2_with fail
      refine (HN.out.sort hsl).mono ?_
      rintro e w' ⟨rfl, hn', hc'⟩
      have HN' := Lib.hid hn'
      have HC' := Lib.hid (hc.trans hc' (fun k hk => .inr hk))
      clear hn' hc'
      go_wp2
      go_ret
      refine ⟨_, rfl, ?_, HC'.out⟩
      have := HN'.out
      rw [HS.out.1, List.filter_eq_self.2 (fun _ _ => rfl)] at this
      exact this
    · intro x c w1 cnt1 hwx hwc hlx hat hrg1 hlt' hg1 hs1 hen
      have hc1 : Chg (fun _ => False) w w1 := hc.grown hg1 (fun k e => .inr (by cases e; exact HRW.out))
      have hrow1 : w1.ownsRow 0 3 1 (.slice a ss.length cap) ss.length (ss.map (Value.int .i64)) := ownsRow_chg HRow.out ((Chg.refl (fun k => k = r) wr).grown hg1 (fun k e => .inl (by cases e; rfl))) (fun g e => (HO2.out g e).2)
      have HR1 := Lib.hid hrow1
      have HC2 := Lib.hid (HC.out.take hlx (has_true_of_atKey hat) rfl)
      have hr1 : r < w1.heap.size := hrg1.lt
      have hw1 := hc1.size
      clear hrow1 hs1
      go_wp2_with (first
        | (at_builtin; refine wpList_append_lies _ rfl _ _ _ rfl 0 3 i1 (.int .i64 0) 1 8 Tryz.underlying22 hi' hz0 hz1 hz2 rfl (by omega) (.slice a ss.length cap) ss.length (ss.map (Value.int .i64)) (by rfl) (HR1.out.alloc _) ⟨w1.heap.size, 0, none⟩ 1 1 [.int .i64 x] (by rfl) (by rfl) (World.news_of_block (cs := #[.int .i64 x]) (t := 3) (fr := (0, 0)) (heap_alloc_new w1 _)) (by simp [Value.oneCell']) (by omega) (by unfold maxLen; omega) (by omega) (Nat.zero_le _) (w1.heap.size + 1) (Array.size_push _) ?_; intro g cap' w2 hrow2 hgrow2 hat2 hlt2)
        | go_in)
      have hm1r : ∀ g, (Value.slice a ss.length cap).ownBlock = some g → m1 ≠ g ∧ r ≠ g := fun g e => by have := HO2.out g e; omega
      refine ⟨⟨_, cnt1, ss ++ [x], some ⟨g, 0, none⟩, cap', by rw [List.length_append]; rfl, ?_, HC2.out, by rw [List.length_append]; show ss.length + 1 + cnt1 ≤ _; omega, ?_, fun g' e => ?_, ?_⟩, ?_⟩
      · exact (hrg1.alloc _).kept hgrow2 (fun e => (hm1r _ e.symm).1 rfl) (fun e => (hm1r _ e.symm).2 rfl)
      · rw [List.length_append, List.map_append]; exact hrow2
      · simp only [Value.ownBlock, Option.some.injEq] at e
        subst e
        rcases hat2 with e | e
        · exact HO2.out _ e
        · omega
      · exact (hc1.alloc _).grown hgrow2 (fun k e => .inr (HO2.out k e).1)
      · rw [((hrg1.alloc _).kept hgrow2 (fun e => (hm1r _ e.symm).1 rfl) (fun e => (hm1r _ e.symm).2 rfl)).left_eq, hrg.left_eq]
        exact hlt'
end Go.Proofs.YtipclbibomemjaaGreatDoor
