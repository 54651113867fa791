/- Walks: a life's pinned, without, gives. -/
import Derived.Test.YtipclbibomemjaaN2
import Derived.Laws.AppendOwnNone
namespace Go.Proofs.Ytipclbibomemjaa
open Go Go.RowKit Go.Maps

def pinnedK (pn : List Int) (x : Int) : Bool := pn.any fun p => decide (p < x)

set_option maxRecDepth 100000 in
theorem pinned_any {w : World} {own : OwnR} {xb pb m1 m2 : Nat} {D : LD} {mv fv sv pv : Value} (h : LifeF w own xb pb m1 m2 D mv fv sv pv) (hl : D.pn.length ≤ 1000000) (x : Int) :
    Calls Try.prog 18 #[.pointer (some ⟨xb, 0, none⟩), .int .i64 x] w fun e w' => e = .returned (.bool (pinnedK D.pn x)) ∧ w = w' := by
  have HF := Lib.hid h
  have c4 := h.cells.2.2.2.2.1
  obtain ⟨a, c, rfl, _, _, _⟩ := ownsRow_slice h.pins
  obtain ⟨n, hn⟩ : ∃ n, n = D.pn.length := ⟨_, rfl⟩
  rw [← hn] at c4 hl HF
  have HN := Lib.hid hn
  clear h hn
  go_enter Try.func18, Try.ntmps18
  go_wp2_with fail
  go_loopg [5] n (fun gm iv wr => ∃ (k : Nat), k ≤ n ∧ gm = n - k ∧ iv = .int .i64 k ∧ w = wr ∧ pinnedK (D.pn.drop k) x = pinnedK D.pn x)
  case atStart => exact ⟨0, by omega, rfl, rfl, rfl, rfl⟩
  case round =>
    obtain ⟨k, hk, hg, rfl, rfl, hr⟩ := hrel
    have Hg := Lib.hid hg
    have Hr := Lib.hid hr
    clear hg hr
    by_cases hlt : k < n
    · obtain ⟨y, hy⟩ : ∃ y, D.pn[k]? = some y := ⟨_, List.getElem?_eq_getElem (by rw [← HN.out]; exact hlt)⟩
      obtain ⟨g, e, cx⟩ := pins_cell (n := n) (by have := HF.out.pins; rw [← HN.out] at this; exact this) hy
      cases e
      have HD := Lib.hid (drop_cons hy)
      have hki : (k : Int) < (n : Int) := by omega
      have hk0 : (0 : Int) ≤ (k : Int) := by omega
      clear hy
      by_cases t : y < x
      · have HR : Hid (pinnedK D.pn x = true) := Lib.hid (by rw [← Hr.out, HD.out]; unfold pinnedK; rw [List.any_cons, decide_eq_true t]; rfl)
        go_wp2_with fail
        go_ret
        exact ⟨by rw [HR.out]; rfl, rfl⟩
      · have HR : Hid (pinnedK (D.pn.drop (k + 1)) x = pinnedK D.pn x) := Lib.hid (by rw [← Hr.out, HD.out]; unfold pinnedK; rw [List.any_cons, decide_eq_false t]; rfl)
        go_wp2_with fail
        go_roundg (n - (k + 1))
        case measure => have := Hg.out; omega
        case rel => exact ⟨k + 1, by omega, rfl, by go_num, rfl, HR.out⟩
    · have HR : Hid (pinnedK D.pn x = false) := Lib.hid (by rw [← Hr.out, List.drop_eq_nil_of_le (by rw [← HN.out]; omega)]; rfl)
      go_wp2_with fail
      go_ret
      exact ⟨by rw [HR.out]; rfl, rfl⟩

theorem erase_step {zs : List Int} {k : Nat} {x y : Int} (h : zs[k]? = some y) (out : Bool) (ho : out = decide (x ∈ zs.take k)) :
    ((y == x) = true → out = false → (zs.take (k + 1)).erase x = (zs.take k).erase x ∧ x ∈ zs.take (k + 1)) ∧ (¬ ((y == x) = true ∧ out = false) → (zs.take (k + 1)).erase x = (zs.take k).erase x ++ [y] ∧ decide (x ∈ zs.take (k + 1)) = out) := by
  rw [take_snoc h]
  refine ⟨fun h1 h2 => ?_, fun h1 => ?_⟩
  · have e : y = x := beq_iff_eq.1 h1
    subst e
    have hn : y ∉ zs.take k := by rw [h2] at ho; exact of_decide_eq_false ho.symm
    refine ⟨?_, by simp⟩
    rw [List.erase_append_right _ hn, List.erase_of_not_mem hn, List.erase_cons_head, List.append_nil]
  · by_cases hm : x ∈ zs.take k
    · rw [List.erase_append_left _ hm]
      exact ⟨rfl, by rw [ho, decide_eq_true hm, decide_eq_true (List.mem_append_left _ hm)]⟩
    · have hyx : (y == x) = false := by
        cases hb : (y == x) with
        | false => rfl
        | true => exact (h1 ⟨hb, by rw [ho, decide_eq_false hm]⟩).elim
      have hne : y ≠ x := by rwa [beq_eq_false_iff_ne] at hyx
      rw [List.erase_append_right _ hm, List.erase_of_not_mem hm, List.erase_of_not_mem (by simp [Ne.symm hne])]
      refine ⟨rfl, ?_⟩
      rw [ho, decide_eq_false hm, decide_eq_false]
      simp [hm, Ne.symm hne]

set_option maxRecDepth 100000 in
set_option maxHeartbeats 4000000 in
theorem without_any (w : World) (v : Value) (zs : List Int) (h : SeesI w v zs) (x : Int) (hl : zs.length ≤ 1000000) :
    Calls Try.prog 37 #[v, .int .i64 x] w fun e w' => ∃ v', e = .returned v' ∧ NewI w w' v' (zs.erase x) ∧ Chg (fun _ => False) w w' := by
  have HS := Lib.hid h
  obtain ⟨a, c, rfl, hn, _⟩ := h
  have Hn := Lib.hid hn
  clear hn
  go_enter Try.func37, Try.ntmps37
  go_wp2_with fail
  go_loopg [5, 6, 7] zs.length (fun gm mv ov iv wr => ∃ (k : Nat) (out : Bool) (m : List Int), k ≤ zs.length ∧ gm = zs.length - k ∧ iv = .int .i64 k ∧ ov = .bool out ∧ out = decide (x ∈ zs.take k) ∧ m = (zs.take k).erase x ∧ NewI w wr mv m ∧ Chg (fun _ => False) w wr)
  case atStart => exact ⟨0, false, [], by omega, rfl, rfl, rfl, by simp, by simp, NewI.nil _ _, Chg.refl _ _⟩
  case round =>
    obtain ⟨k, out, m, hk, hg, rfl, rfl, ho, hm, hN, hch⟩ := hrel
    have Hg := Lib.hid hg
    have HNw := Lib.hid hN
    have HC := Lib.hid hch
    have HM := Lib.hid hm
    have HO := Lib.hid ho
    have hml : m.length ≤ k := by rw [hm]; exact Nat.le_trans List.length_erase_le (List.length_take_le _ _)
    obtain ⟨ma, mc, rfl⟩ := hN.slice
    clear hg hN hm ho
    by_cases hlt : k < zs.length
    · obtain ⟨y, hy⟩ : ∃ y, zs[k]? = some y := ⟨_, List.getElem?_eq_getElem hlt⟩
      obtain ⟨ad, rfl⟩ : ∃ ad, a = some ad := by
        cases a with
        | none => have := Hn.out rfl; subst this; simp at hlt
        | some ad => exact ⟨ad, rfl⟩
      have cx : wr.cell? (ad.add k) = some (.int .i64 y) := by
        obtain ⟨a4, c4, e4, _, h4⟩ := HS.out.chg0 hch
        cases e4
        exact h4 ad rfl k y hy
      obtain ⟨HE1, HE2⟩ : Hid ((y == x) = true → out = false → (zs.take (k + 1)).erase x = (zs.take k).erase x ∧ x ∈ zs.take (k + 1)) ∧ Hid (¬ ((y == x) = true ∧ out = false) → (zs.take (k + 1)).erase x = (zs.take k).erase x ++ [y] ∧ decide (x ∈ zs.take (k + 1)) = out) := ⟨Lib.hid (erase_step hy out HO.out).1, Lib.hid (erase_step hy out HO.out).2⟩
      have hki : (k : Int) < (zs.length : Int) := by omega
      have hk0 : (0 : Int) ≤ (k : Int) := by omega
      clear hy hch
      by_cases hc : (y == x) = true ∧ out = false
      · obtain ⟨hb, rfl⟩ := hc
        have HR := Lib.hid (HE1.out hb rfl)
        clear HE1 HE2
        go_wp2_with fail
        go_roundg (zs.length - (k + 1))
        case measure => have := Hg.out; omega
        case rel => exact ⟨k + 1, true, m, by omega, rfl, by go_num, rfl, by rw [decide_eq_true HR.out.2], by rw [HR.out.1, HM.out], HNw.out, HC.out⟩
      · have HR := Lib.hid (HE2.out hc)
        obtain ⟨hb, hbe⟩ : ∃ hb, (y == x) = hb := ⟨_, rfl⟩
        have hcs : hb = false ∨ hb = true ∧ out = true := by
          cases hb with
          | false => exact .inl rfl
          | true => cases out with
            | false => exact (hc ⟨hbe, rfl⟩).elim
            | true => exact .inr ⟨rfl, rfl⟩
        clear HE1 HE2 hc
        rcases hcs with rfl | ⟨rfl, rfl⟩
        all_goals
          go_wp2_with (first
            | (at_builtin; refine app_int rfl _ _ rfl _ m rfl HNw.out.1 y rfl (by omega) ?_; intro g5 cap5 w5 hr5 hc5 hat5; have HR5 := Lib.hid hr5; have HC5 := Lib.hid (HC.out.news hc5 HNw.out.2); have HA5 := Lib.hid hat5; clear hr5 hc5 hat5)
            | fail)
          go_roundg (zs.length - (k + 1))
          case measure => have := Hg.out; omega
          case rel => exact ⟨k + 1, _, m ++ [y], by omega, rfl, by go_num, rfl, HR.out.2.symm, by rw [HR.out.1, HM.out], HNw.out.grow (by simp) HR5.out HA5.out HC.out.size, HC5.out⟩
    · have HE : Hid (NewI w wr (.slice ma m.length mc) (zs.erase x)) := Lib.hid (by
        have h1 := HM.out
        rw [List.take_of_length_le (by omega)] at h1
        rw [← h1]; exact HNw.out)
      clear hch
      go_wp2_with fail
      go_ret
      exact ⟨_, rfl, HE.out, HC.out⟩
end Go.Proofs.Ytipclbibomemjaa
