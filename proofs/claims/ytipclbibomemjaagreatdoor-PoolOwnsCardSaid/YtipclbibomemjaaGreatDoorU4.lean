/- Walks: Usable. -/
import Derived.Test.YtipclbibomemjaaGreatDoorU3
namespace Go.Proofs.YtipclbibomemjaaGreatDoor
open Go Go.RowKit Go.Maps

/-- What no pinned version needs. -/
def PS.usable (P : PS) : List (Nat × Int) := P.free.filter fun q => P.pins.all fun x => decide (q.2 ≤ x)
def goodK (L : List (Nat × Int)) (v : Int) (x : Int) : Bool := L.any fun q => (q.1 : Int) == x && decide (q.2 ≤ v)
theorem rise_inj {L : List (Nat × Int)} (hr : L.Pairwise fun p q => p.1 < q.1) {p q : Nat × Int} (hp : p ∈ L) (hq : q ∈ L) (e : p.1 = q.1) : p = q := by
  induction L with
  | nil => simp at hq
  | cons y L ih =>
    obtain ⟨h1, h2⟩ := List.pairwise_cons.1 hr
    rcases List.mem_cons.1 hp with rfl | hp'
    · rcases List.mem_cons.1 hq with rfl | hq'
      · rfl
      · have := h1 q hq'; omega
    · rcases List.mem_cons.1 hq with rfl | hq'
      · have := h1 p hp'; omega
      · exact ih h2 hp' hq'
theorem goodK_at {L : List (Nat × Int)} {v : Int} (hr : L.Pairwise fun p q => p.1 < q.1) {q : Nat × Int} (hq : q ∈ L) : goodK L v q.1 = decide (q.2 ≤ v) := by
  unfold goodK
  rw [Bool.eq_iff_iff, List.any_eq_true, decide_eq_true_eq]
  constructor
  · rintro ⟨p, hp, h⟩
    rw [Bool.and_eq_true, beq_iff_eq, decide_eq_true_eq] at h
    have : p = q := rise_inj hr hp hq (by omega)
    subst this
    exact h.2
  · intro h
    exact ⟨q, hq, by rw [Bool.and_eq_true, beq_iff_eq, decide_eq_true_eq]; exact ⟨rfl, h⟩⟩
theorem usable_of {P : PS} (hok : P.ok) {v : Int} (h1 : ∀ x ∈ P.pins, v ≤ x) (h2 : v = 9223372036854775807 ∨ v ∈ P.pins) : P.free.filter (fun q => decide (q.2 ≤ v)) = P.usable := by
  unfold PS.usable
  refine List.filter_congr fun q hq => ?_
  rw [Bool.eq_iff_iff, decide_eq_true_eq, List.all_eq_true]
  constructor
  · intro h x hx
    have := h1 x hx
    exact decide_eq_true (by omega)
  · intro h
    rcases h2 with rfl | h2
    · exact hok.since q hq
    · exact of_decide_eq_true (h v h2)

set_option maxRecDepth 100000 in
set_option maxHeartbeats 4000000 in
theorem usable_any (w : World) (pb m1 m2 : Nat) (P : PS) (h : PoolF w pb m1 m2 P) (hok : P.ok) :
    Calls Tryz.prog 14 #[.pointer (some ⟨pb, 0, none⟩)] w fun e w' => ∃ v, e = .returned v ∧ NewI w w' v (nums P.usable) ∧ Chg (fun _ => False) w w' := by
  obtain ⟨c0, c1, c2, c3, _⟩ := h.cells
  have hlt := h.lt
  have H := Lib.hid h
  obtain ⟨M1, hown, hM⟩ := h.fr
  have HM := Lib.hid hM
  have hsz := hM.size
  have hlen := hok.len
  have Hok := Lib.hid hok
  obtain ⟨i1, hi', hz0, hz1, hz2⟩ := info_parts info3
  clear h hM hok
  go_enter Tryz.func14, Tryz.ntmps14
  go_wp2_with (first
    | (go_at_call 24; refine (oldest_any _ _ _ _ _ H.out).mono ?_; rintro e wa ⟨v, rfl, hv1, hv2, hca⟩; have HV1 := Lib.hid hv1; have HV2 := Lib.hid hv2; have HCA := Lib.hid hca; have d2 : wa.cell? ⟨pb, 2, none⟩ = some (.map (some m1)) := (cell_chg hca hlt.1 (fun f => f)).trans c2; have hownA := ownsMap_chg hown hca (fun f => f); clear hv1 hv2 hca)
    | (at_range; refine wpList_range_own _ rfl _ 62 rfl 3 3 law3 Tryz.underlying62 _ m1 _ _ rfl hownA ?_; intro w0 hrg0 hg0 hs0)
    | go_in)
  obtain ⟨r, hr⟩ : ∃ r, r = wa.heap.size := ⟨_, rfl⟩
  rw [← hr] at hrg0 ⊢
  have hrw : w.heap.size ≤ r := by rw [hr]; exact HCA.out.size
  have HRW := Lib.hid hrw
  have hc0 : Chg (fun _ => False) w w0 := HCA.out.grown hg0 (fun k e => by cases e)
  have HG : Hid (∀ q ∈ P.free, goodK P.free v q.1 = decide (q.2 ≤ v)) := Lib.hid (fun q hq => goodK_at Hok.out.rise hq)
  have HU : Hid (P.free.filter (fun q => decide (q.2 ≤ v)) = P.usable) := Lib.hid (usable_of Hok.out HV1.out HV2.out)
  clear hr
  go_frame
  go_loopw [4, 5] (fun lv _ wr => ∃ (left : Lit → Bool) (cnt : Nat) (ss : List Int) (a : Option Addr) (cap : Nat), lv = .slice a ss.length cap ∧ wr.ranges Tryz.prog 3 RI m1 r P.free.length M1 left cnt ∧ Coll M1 left (goodK P.free v) ss ∧ ss.length + cnt ≤ P.free.length ∧
      wr.ownsRow 0 3 1 (.slice a ss.length cap) ss.length (ss.map (Value.int .i64)) ∧ (∀ g, (Value.slice a ss.length cap).ownBlock = some g → w.heap.size ≤ g ∧ g ≠ r) ∧ Chg (fun _ => False) w wr)
    (fun _ _ wr => wr.rangeLeft m1 r)
  case atStart => exact ⟨_, _, [], _, _, rfl, hrg0, Coll.start _ _, by simp [hsz], World.ownsRow_nil _ _ _ _, fun g e => (by simp [Value.ownBlock] at e), hc0⟩
  case round =>
    obtain ⟨left, cnt, ss, a, cap, rfl, hrg, hC, hcn, hrow, hown2, hc⟩ := hrel
    have HC := Lib.hid hC
    have HRow := Lib.hid hrow
    have HO2 := Lib.hid hown2
    clear hC hrow hown2
    go_wp2_with (first
      | (at_next; refine wpList_next_ranges_ii _ rfl _ rfl 3 3 .i64 .i64 law3 Tryz.underlying3 Tryz.underlying3 m1 r P.free.length _ _ _ rfl hrg ?_ ?_)
      | go_in)
    · intro _ hl0
      have HS := Lib.hid (HC.out.sorted (gq := fun q => decide (q.2 ≤ v)) HM.out Hok.out.rise hl0 HG.out)
      have HN : Hid (NewI w wr (.slice a ss.length cap) ss) := Lib.hid ⟨HRow.out, fun g e => (HO2.out g e).1⟩
      have hsl : ss.length < 4611686018427387904 := by omega
      clear hl0
      go_wp2_with fail
      refine (HN.out.sort hsl).mono ?_
      rintro e w' ⟨rfl, hn', hc'⟩
      have HN' := Lib.hid hn'
      have HC' := Lib.hid (hc.trans hc' (fun k hk => .inr hk))
      clear hn' hc'
      go_wp2
      go_ret
      refine ⟨_, rfl, ?_, HC'.out⟩
      have := HN'.out
      rw [HS.out.1, HU.out] at this
      exact this
    · intro x c w1 cnt1 hwx hwc hlx hat hrg1 hlt' hg1 hs1 hen
      have hc1 : Chg (fun _ => False) w w1 := hc.grown hg1 (fun k e => .inr (by cases e; exact HRW.out))
      have hrow1 : w1.ownsRow 0 3 1 (.slice a ss.length cap) ss.length (ss.map (Value.int .i64)) := ownsRow_chg HRow.out ((Chg.refl (fun k => k = r) wr).grown hg1 (fun k e => .inl (by cases e; rfl))) (fun g e => (HO2.out g e).2)
      have HR1 := Lib.hid hrow1
      have hgood : goodK P.free v x = decide (c ≤ v) := by
        obtain ⟨q, hq, rfl⟩ := (HM.out.has x).1 (has_true_of_atKey hat)
        have e := (HM.out.at' q hq (dI 0)).symm.trans (hat (dI 0))
        rw [HG.out q hq]
        cases e; rfl
      have HGood := Lib.hid hgood
      clear hgood
      have hr1 : r < w1.heap.size := hrg1.lt
      have hw1 := hc1.size
      clear hrow1 hs1
      by_cases hcv : c ≤ v
      · have HC2 := Lib.hid (HC.out.take hlx (has_true_of_atKey hat) (by rw [HGood.out]; exact decide_eq_true hcv))
        go_wp2_with (first
          | (at_builtin; refine wpList_append_lies _ rfl _ _ _ rfl 0 3 i1 (.int .i64 0) 1 8 Tryz.underlying22 hi' hz0 hz1 hz2 rfl (by omega) (.slice a ss.length cap) ss.length (ss.map (Value.int .i64)) (by rfl) (HR1.out.alloc _) ⟨w1.heap.size, 0, none⟩ 1 1 [.int .i64 x] (by rfl) (by rfl) (World.news_of_block (cs := #[.int .i64 x]) (t := 3) (fr := (0, 0)) (heap_alloc_new w1 _)) (by simp [Value.oneCell']) (by omega) (by unfold maxLen; omega) (by omega) (Nat.zero_le _) (w1.heap.size + 1) (Array.size_push _) ?_; intro g cap' w2 hrow2 hgrow2 hat2 hlt2)
          | go_in)
        have hm1r : ∀ g, (Value.slice a ss.length cap).ownBlock = some g → m1 ≠ g ∧ r ≠ g := fun g e => by have := HO2.out g e; omega
        refine ⟨⟨_, cnt1, ss ++ [x], some ⟨g, 0, none⟩, cap', by rw [List.length_append]; rfl, ?_, HC2.out, by rw [List.length_append]; show ss.length + 1 + cnt1 ≤ _; omega, ?_, fun g' e => ?_, ?_⟩, ?_⟩
        · exact (hrg1.alloc _).kept hgrow2 (fun e => (hm1r _ e.symm).1 rfl) (fun e => (hm1r _ e.symm).2 rfl)
        · rw [List.length_append, List.map_append]; exact hrow2
        · simp only [Value.ownBlock, Option.some.injEq] at e
          subst e
          rcases hat2 with e | e
          · exact HO2.out _ e
          · omega
        · exact (hc1.alloc _).grown hgrow2 (fun k e => .inr (HO2.out k e).1)
        · rw [((hrg1.alloc _).kept hgrow2 (fun e => (hm1r _ e.symm).1 rfl) (fun e => (hm1r _ e.symm).2 rfl)).left_eq, hrg.left_eq]
          exact hlt'
      · have HC2 := Lib.hid (HC.out.skip (x := x) (by rw [HGood.out]; exact decide_eq_false hcv))
        go_wp2_with go_in
        refine ⟨⟨_, cnt1, ss, a, cap, rfl, hrg1, HC2.out, by omega, HR1.out, HO2.out, hc1⟩, ?_⟩
        rw [hrg1.left_eq, hrg.left_eq]; exact hlt'
end Go.Proofs.YtipclbibomemjaaGreatDoor
