/- Words and walks that other texts of this seat hold, taken together. (Taken by pick.py.) -/
import Derived.Test.YtckioocahmbhkaaGreatDoorW18
import Derived.StillTailTactics
import Derived.Deep.LoopGhost
namespace Go.Proofs.YtckioocahmbhkaaGreatDoor
open Go Go.RowKit Go.Maps Go.MuLone

theorem SeesB.chg {w w' : World} {v : Value} {bs : List UInt8} {S : Nat → Prop} (h : SeesB w v bs) (hc : Chg S w w') (hs : ∀ ad n c, v = .slice (some ad) n c → bs ≠ [] → ¬ S ad.block) : SeesB w' v bs := by
  obtain ⟨a, cap, rfl, h1, h2⟩ := h
  refine ⟨a, cap, rfl, h1, fun ad e j x hx => ?_⟩
  have h3 := h2 ad e j x hx
  have hne : bs ≠ [] := fun e => by rw [e] at hx; simp at hx
  have hbk : (ad.add j).block = ad.block := by unfold Addr.add; split <;> rfl
  have hlt := World.block_lt_of_cell? _ _ h3
  subst e
  exact (World.cell?_of_block (w := w) (w' := w') (a := ad.add j) (by rw [hbk] at hlt ⊢; exact hc.block _ hlt (hs ad _ _ rfl hne))).trans h3

theorem SeesB.none {w w' : World} {v : Value} {bs : List UInt8} (h : SeesB w v bs) (hc : Chg (fun _ => False) w w') : SeesB w' v bs := h.chg hc (fun _ _ _ _ _ f => f)

/-- A list of writes that can be read. -/
def WSees (w : World) (v : Value) (qs : List (Nat × List UInt8)) : Prop :=
  ∃ a cap, v = .slice a qs.length cap ∧ ∀ (i : Nat) (q : Nat × List UInt8), qs[i]? = some q → ∃ g dv, a = some ⟨g, 0, none⟩ ∧ w.cell? ⟨g, i * 2, none⟩ = some (.int .i64 q.1) ∧ w.cell? ⟨g, i * 2 + 1, none⟩ = some dv ∧ SeesB w dv q.2

theorem WSees.none {w w' : World} {v : Value} {qs : List (Nat × List UInt8)} (h : WSees w v qs) (hc : Chg (fun _ => False) w w') : WSees w' v qs := by
  obtain ⟨a, cap, rfl, h1⟩ := h
  refine ⟨a, cap, rfl, fun i q hq => ?_⟩
  obtain ⟨g, dv, e, c1, c2, s⟩ := h1 i q hq
  exact ⟨g, dv, e, (cell_chg hc (World.block_lt_of_cell? _ _ c1) (fun f => f)).trans c1, (cell_chg hc (World.block_lt_of_cell? _ _ c2) (fun f => f)).trans c2, s.none hc⟩

theorem Writes.sees {w : World} {B : Nat} {rho : Nat → Option Nat} {v : Value} {qs : List (Nat × List UInt8)} (h : Writes w B rho v qs) : WSees w v qs := by
  obtain ⟨vs, hvl, harr, _, hvp, _⟩ := h
  obtain ⟨a, cap, rfl, _, _, hg⟩ := ownsRow_slice harr
  refine ⟨a, cap, rfl, fun i q hq => ?_⟩
  have hlt := (List.getElem?_eq_some_iff.1 hq).1
  obtain ⟨g, rfl⟩ := hg (by omega)
  obtain ⟨g1, c1, hv, _, _, hr⟩ := hvp i q hq
  obtain ⟨e1, e2⟩ := pcells_get qs vs i q _ hq hv
  have hl := pcells_length qs vs hvl
  exact ⟨g, _, rfl, (harr.cellAt (i * 2) (by omega)).trans e1, (harr.cellAt (i * 2 + 1) (by omega)).trans e2, SeesB.of_row hr⟩

set_option maxRecDepth 100000 in
theorem samew_any (w : World) (n : Int) (v1 v2 : Value) (p : List UInt8) (h1 : SeesB w v1 p) (h2 : SeesB w v2 p) :
    Calls Tryz.prog 144 #[.agg #[.int .i64 n, v1], .agg #[.int .i64 n, v2]] w fun e w' => e = .returned (.bool true) ∧ Chg (fun _ => False) w w' := by
  have H1 := Lib.hid h1
  have H2 := Lib.hid h2
  obtain ⟨a1, c1, rfl, _, _⟩ := h1
  obtain ⟨a2, c2, rfl, _, _⟩ := h2
  have hn : (n == n) = true := by simp
  go_enter Tryz.func144, Tryz.ntmps144
  go_wp2_with fail
  have hc : Chg (fun _ => False) w ((w.alloc (.cells #[.int .i64 n, .slice a1 p.length c1] 78)).alloc (.cells #[.int .i64 n, .slice a2 p.length c2] 78)) := ((Chg.refl _ w).alloc _).alloc _
  have hb1 := heap_alloc_keep (.cells #[.int .i64 n, .slice a2 p.length c2] 78) (heap_alloc_new w (.cells #[.int .i64 n, .slice a1 p.length c1] 78))
  have hb2 := heap_alloc_new (w.alloc (.cells #[.int .i64 n, .slice a1 p.length c1] 78)) (.cells #[.int .i64 n, .slice a2 p.length c2] 78)
  refine (same_yes _ _ _ p (H1.out.none hc) (H2.out.none hc)).mono ?_
  rintro e w' ⟨rfl, rfl⟩
  go_wp2_with fail
  go_ret
  exact ⟨rfl, hc⟩

set_option maxRecDepth 100000 in
set_option maxHeartbeats 4000000 in
theorem samews_any (w : World) (v1 v2 : Value) (qs : List (Nat × List UInt8)) (h1 : WSees w v1 qs) (h2 : WSees w v2 qs) (hn : qs.length ≤ 1000000) :
    Calls Tryz.prog 104 #[v1, v2] w fun e w' => e = .returned (.bool true) ∧ Chg (fun _ => False) w w' := by
  have H1 := Lib.hid h1
  have H2 := Lib.hid h2
  obtain ⟨a1, c1, rfl, _⟩ := h1
  obtain ⟨a2, c2, rfl, _⟩ := h2
  have hne : ((qs.length : Int) != (qs.length : Int)) = false := by simp
  go_enter Tryz.func104, Tryz.ntmps104
  go_wp2_with fail
  go_loopg [5] qs.length (fun gm iv wr => ∃ k : Nat, k ≤ qs.length ∧ gm = qs.length - k ∧ iv = .int .i64 k ∧ Chg (fun _ => False) w wr)
  case atStart => exact ⟨0, by omega, rfl, rfl, Chg.refl _ _⟩
  case round =>
    obtain ⟨k, hk, hg, rfl, hc⟩ := hrel
    have Hg := Lib.hid hg
    have Hc := Lib.hid hc
    clear hg hc
    by_cases hlt : k < qs.length
    · obtain ⟨q, hq⟩ : ∃ q, qs[k]? = some q := ⟨_, List.getElem?_eq_getElem hlt⟩
      obtain ⟨_, _, e1, hc1⟩ := H1.out.none Hc.out
      obtain ⟨_, _, e2, hc2⟩ := H2.out.none Hc.out
      cases e1
      cases e2
      obtain ⟨g1, d1, rfl, x1, x2, s1⟩ := hc1 k q hq
      obtain ⟨g2, d2, rfl, y1, y2, s2⟩ := hc2 k q hq
      have S1 : Hid (SeesB wr.drew d1 q.2) := Lib.hid s1
      have S2 : Hid (SeesB wr.drew d2 q.2) := Lib.hid s2
      have hk0 : (0 : Int) ≤ (k : Int) := Int.natCast_nonneg _
      have hk1 : (k : Int) < (qs.length : Int) := by omega
      clear hc1 hc2 hq s1 s2
      go_wp2_with fail
      go_still_tail 8, (by kernel_rfl)
      change wpList _ _ _ _ _ wr.drew
      go_wp2_with fail
      refine (samew_any wr.drew q.1 _ _ q.2 S1.out S2.out).mono ?_
      rintro e w2 ⟨rfl, hc2⟩
      have HC2 := Lib.hid (Hc.out.drew.trans hc2 (fun _ f => f.elim))
      clear hc2
      go_wp2_with fail
      go_roundg (qs.length - (k + 1))
      case measure => have := Hg.out; omega
      case rel => exact ⟨k + 1, by omega, rfl, by go_num, HC2.out⟩
    · go_wp2
      go_ret
      exact ⟨rfl, Hc.out⟩

end Go.Proofs.YtckioocahmbhkaaGreatDoor
