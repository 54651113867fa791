/- The document's pool: Usable, Room. -/
import Derived.Test.YtipclbibomemjaaV3
namespace Go.Proofs.Ytipclbibomemjaa
open Go Go.RowKit Go.Maps

def goodP (pins : List Int) (q : Nat × Int) : Bool := pins.all fun x => decide (q.2 ≤ x)
theorem usable_good (P : PS) : P.usable = P.free.filter (goodP P.pins) := rfl
theorem filter_snoc {L : List (Nat × Int)} {k : Nat} {q : Nat × Int} (g : Nat × Int → Bool) (h : L[k]? = some q) : nums ((L.take (k + 1)).filter g) = if g q then nums ((L.take k).filter g) ++ [(q.1 : Int)] else nums ((L.take k).filter g) := by
  unfold nums
  rw [List.take_add_one, h, List.filter_append]
  cases hb : g q <;> simp [hb]
theorem pins_cell {w : World} {a : Option Addr} {n c k : Nat} {zs : List Int} {x : Int} (h : w.ownsRow 0 3 1 (.slice a n c) n (zs.map (Value.int .i64))) (hx : zs[k]? = some x) :
    ∃ g, a = some ⟨g, 0, none⟩ ∧ w.cell? ⟨g, k, none⟩ = some (.int .i64 x) := by
  have hl : (zs.map (Value.int .i64)).length = n * 1 := h.1
  rw [List.length_map] at hl
  have hk := (List.getElem?_eq_some_iff.1 hx).1
  obtain ⟨_, _, e, _, _, hp⟩ := ownsRow_slice h
  cases e
  obtain ⟨g, rfl⟩ := hp (by omega)
  exact ⟨g, rfl, by rw [h.cellAt k (by omega), List.getElem?_map, hx]; rfl⟩
theorem all_snoc {pins : List Int} {j : Nat} {x s : Int} (h : pins[j]? = some x) : ((pins.take (j + 1)).all fun x => decide (s ≤ x)) = (((pins.take j).all fun x => decide (s ≤ x)) && decide (s ≤ x)) := by
  rw [List.take_add_one, h, List.all_append]; simp

set_option maxRecDepth 100000 in
set_option maxHeartbeats 4000000 in
theorem rusable_any (w : World) (rb : Nat) (P : PS) (lv pv : Value) (h : RF w rb P lv pv) (hl : P.free.length ≤ 1000000) (hp : P.pins.length ≤ 1000000) :
    Calls Try.prog 30 #[.pointer (some ⟨rb, 0, none⟩)] w fun e w' => ∃ v, e = .returned v ∧ NewI w w' v (nums P.usable) ∧ Chg (fun _ => False) w w' := by
  have HF := Lib.hid h
  obtain ⟨a, c, rfl, _, _, _⟩ := ownsRow_slice h.fr
  obtain ⟨b, d, rfl, _, _, _⟩ := ownsRow_slice h.pn
  obtain ⟨n, hn⟩ : ∃ n, n = P.free.length := ⟨_, rfl⟩
  obtain ⟨m, hm⟩ : ∃ m, m = P.pins.length := ⟨_, rfl⟩
  have HN := Lib.hid hn
  have HM := Lib.hid hm
  rw [← hn] at hl HF
  rw [← hm] at hp HF
  clear h hn hm
  go_enter Try.func30, Try.ntmps30
  go_wp2_with fail
  go_loopg [3, 4] n (fun gm lv iv wr => ∃ (k : Nat) (zs : List Int), k ≤ n ∧ gm = n - k ∧ iv = .int .i64 k ∧ zs = nums ((P.free.take k).filter (goodP P.pins)) ∧ NewI w wr lv zs ∧ Chg (fun _ => False) w wr)
  case atStart => exact ⟨0, [], by omega, rfl, rfl, rfl, NewI.nil _ _, Chg.refl _ _⟩
  case round =>
    obtain ⟨k, zs, hk, hg, rfl, hz, hN, hch⟩ := hrel
    have Hg := Lib.hid hg
    have HNw := Lib.hid hN
    have HCh := Lib.hid hch
    have HZ := Lib.hid hz
    have hzk : zs.length ≤ k := by rw [hz, nums_length]; exact Nat.le_trans (List.length_filter_le _ _) (List.length_take_le _ _)
    obtain ⟨va, vc, rfl⟩ := hN.slice
    have HW := Lib.hid (HF.out.chg0 hch)
    obtain ⟨_, _, c2, c3, _⟩ := HW.out.cells
    clear hg hN hz
    by_cases hlt : k < n
    · obtain ⟨q, hq⟩ : ∃ q, P.free[k]? = some q := ⟨_, List.getElem?_eq_getElem (by rw [← HN.out]; exact hlt)⟩
      obtain ⟨g, e, cx, cy⟩ := frow_cell (n := n) (by have := HW.out.fr; rw [← HN.out] at this; exact this) hq
      cases e
      have HQ := Lib.hid hq
      have hki : (k : Int) < (n : Int) := by omega
      have hk0 : (0 : Int) ≤ (k : Int) := by omega
      clear hq hch
      go_wp2_with fail
      go_loopg [5, 6] m (fun gm okv jv wq => ∃ (j : Nat) (bb : Bool), j ≤ m ∧ gm = m - j ∧ jv = .int .i64 j ∧ okv = .bool bb ∧ bb = (P.pins.take j).all (fun x => decide (q.2 ≤ x)) ∧ Chg (fun _ => False) wr wq)
      case atStart => exact ⟨0, true, by omega, rfl, rfl, rfl, rfl, Chg.refl _ _⟩
      case round =>
        obtain ⟨j, bb, hj, hg, rfl, rfl, hb, hch⟩ := hrel
        have Hg2 := Lib.hid hg
        have HB := Lib.hid hb
        have HCh2 := Lib.hid hch
        have HW2 := Lib.hid (HW.out.chg0 hch)
        have d2 := HW2.out.cells.2.2.1
        have d3 := HW2.out.cells.2.2.2.1
        have dx : wr.cell? ⟨g, k * 2, none⟩ = some (.int .i64 q.1) := by
          obtain ⟨_, e, cx', _⟩ := frow_cell (n := n) (by have := HW2.out.fr; rw [← HN.out] at this; exact this) HQ.out
          cases e; exact cx'
        have dy : wr.cell? ⟨g, k * 2 + 1, none⟩ = some (.int .i64 q.2) := by
          obtain ⟨_, e, _, cy'⟩ := frow_cell (n := n) (by have := HW2.out.fr; rw [← HN.out] at this; exact this) HQ.out
          cases e; exact cy'
        clear hg hb c2 c3 cx cy
        by_cases hlt2 : j < m
        · obtain ⟨x, hx⟩ : ∃ x, P.pins[j]? = some x := ⟨_, List.getElem?_eq_getElem (by rw [← HM.out]; exact hlt2)⟩
          obtain ⟨gp, e, dp⟩ := pins_cell (n := m) (by have := HW2.out.pn; rw [← HM.out] at this; exact this) hx
          cases e
          have hji : (j : Int) < (m : Int) := by omega
          have hj0 : (0 : Int) ≤ (j : Int) := by omega
          have HA : Hid ((P.pins.take (j + 1)).all (fun x => decide (q.2 ≤ x)) = (bb && decide (q.2 ≤ x))) := Lib.hid (by rw [all_snoc hx, HB.out])
          clear hx hch
          cases bb with
          | true =>
            go_wp2_with fail
            go_quiet (fail)
            go_wp2_with fail
            go_roundg (m - (j + 1))
            case measure => have := Hg2.out; omega
            case rel => exact ⟨j + 1, _, by omega, rfl, by go_num, rfl, by rw [HA.out]; rfl, HCh2.out.drewN _⟩
          | false =>
            go_wp2_with fail
            go_quiet (fail)
            go_wp2_with fail
            go_roundg (m - (j + 1))
            case measure => have := Hg2.out; omega
            case rel => exact ⟨j + 1, _, by omega, rfl, by go_num, rfl, by rw [HA.out]; rfl, HCh2.out.drewN _⟩
        · have HGood : Hid (goodP P.pins q = bb) := Lib.hid (by have := HB.out; rw [List.take_of_length_le (by rw [← HM.out]; omega)] at this; exact this.symm)
          have HCT := Lib.hid (HCh.out.trans hch (fun _ f => f.elim))
          have HN2 := Lib.hid (HNw.out.keep hch (fun _ f => f.elim))
          have HS := Lib.hid (filter_snoc (goodP P.pins) HQ.out)
          clear hch
          cases bb with
          | true =>
            go_wp2_with (first
              | (at_builtin; refine app_int rfl _ _ rfl _ zs rfl HN2.out.1 (q.1 : Int) rfl (by omega) ?_; intro g5 cap5 w5 hr5 hc5 hat5; have HR5 := Lib.hid hr5; have HC5 := Lib.hid (HCT.out.news hc5 HN2.out.2); have HA5 := Lib.hid hat5; clear hr5 hc5 hat5)
              | fail)
            go_roundg (n - (k + 1))
            case measure => have := Hg.out; omega
            case rel => exact ⟨k + 1, zs ++ [(q.1 : Int)], by omega, rfl, by go_num, by rw [HS.out, HGood.out, HZ.out]; rfl, HN2.out.grow (by simp) HR5.out HA5.out HCT.out.size, HC5.out⟩
          | false =>
            go_wp2_with fail
            go_roundg (n - (k + 1))
            case measure => have := Hg.out; omega
            case rel => exact ⟨k + 1, zs, by omega, rfl, by go_num, by rw [HS.out, HGood.out, HZ.out]; rfl, HN2.out, HCT.out⟩
    · have hkn : n ≤ k := by omega
      have HE : Hid (NewI w wr (.slice va zs.length vc) (nums P.usable)) := Lib.hid (by
        have := HNw.out
        have hz := HZ.out
        rw [List.take_of_length_le (by rw [← HN.out]; omega)] at hz
        rw [usable_good, ← hz]; exact this)
      clear hch
      go_wp2_with fail
      go_ret
      exact ⟨_, rfl, HE.out, HCh.out⟩
end Go.Proofs.Ytipclbibomemjaa
