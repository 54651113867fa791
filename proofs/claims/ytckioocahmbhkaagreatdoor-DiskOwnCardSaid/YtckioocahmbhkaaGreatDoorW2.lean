/- Walks: pages. -/
import Derived.Test.YtckioocahmbhkaaGreatDoorW1
import Derived.Outline
namespace Go.Proofs.YtckioocahmbhkaaGreatDoor
open Go Go.RowKit Go.Maps Go.MuLone

theorem pcells_length (qs : List (Nat × List UInt8)) (vs : List Value) (h : vs.length = qs.length) : (pcells qs vs).length = qs.length * 2 := by
  induction qs generalizing vs with
  | nil => simp [pcells]
  | cons q qs ih =>
    cases vs with
    | nil => simp at h
    | cons v vs =>
      have := ih vs (by simpa using h)
      simp only [pcells, List.zip_cons_cons, List.map_cons, List.flatten_cons, List.length_append, List.length_cons, List.length_nil] at this ⊢
      omega

theorem pcells_get (qs : List (Nat × List UInt8)) (vs : List Value) (i : Nat) (q : Nat × List UInt8) (v : Value) (hq : qs[i]? = some q) (hv : vs[i]? = some v) :
    (pcells qs vs)[i * 2]? = some (.int .i64 q.1) ∧ (pcells qs vs)[i * 2 + 1]? = some v := by
  induction qs generalizing vs i with
  | nil => simp at hq
  | cons q' qs ih =>
    cases vs with
    | nil => simp at hv
    | cons v' vs =>
      cases i with
      | zero => simp at hq hv; subst hq; subst hv; simp [pcells]
      | succ i =>
        have := ih vs i (by simpa using hq) (by simpa using hv)
        have e : pcells (q' :: qs) (v' :: vs) = .int .i64 q'.1 :: v' :: pcells qs vs := by simp [pcells]
        rw [e, show (i + 1) * 2 = i * 2 + 2 by omega, show i * 2 + 2 + 1 = (i * 2 + 1) + 2 by omega]
        simpa using this

/-- A row as a slice value. -/
theorem ownsRow_slice {w : World} {base : Nat} {e : TypeId} {sz : Nat} {v : Value} {n : Nat} {xs : List Value} (h : w.ownsRow base e sz v n xs) :
    ∃ a cap, v = .slice a n cap ∧ n ≤ cap ∧ cap ≤ maxLen ∧ (0 < n → ∃ g, a = some ⟨g, 0, none⟩) := by
  rcases h.2 with ⟨rfl, rfl⟩ | ⟨g, cap, cur, rfl, hg, hh, hn, hcap, _⟩
  · exact ⟨none, 0, rfl, Nat.le_refl _, by simp [maxLen], fun h => by omega⟩
  · exact ⟨_, cap, rfl, hn, hcap, fun _ => ⟨g, rfl⟩⟩

def pagesL (qs : List (Nat × List UInt8)) (n : Nat) : Nat := qs.foldl (fun n q => max n (q.1 + 1)) n

theorem pagesL_le (qs : List (Nat × List UInt8)) (n B : Nat) (hn : n ≤ B + 1) (h : ∀ q ∈ qs, q.1 ≤ B) : pagesL qs n ≤ B + 1 := by
  induction qs generalizing n with
  | nil => exact hn
  | cons q qs ih => exact ih _ (by have := h q (by simp); show max n (q.1 + 1) ≤ _; omega) (fun q' hq' => h q' (by simp [hq']))

theorem pagesL_snoc (qs : List (Nat × List UInt8)) (n k : Nat) (q : Nat × List UInt8) (h : qs[k]? = some q) : pagesL (qs.take (k + 1)) n = max (pagesL (qs.take k) n) (q.1 + 1) := by
  rw [List.take_add_one, h]
  simp [pagesL, List.foldl_append]

theorem pages_any (w : World) (own : Own) (L : Int) (b : Nat) (D : DS) (h : DiskAt w own L b D) (hp : ∀ q ∈ D.pending, q.1 ≤ 1000000) (hl : D.lasting.length ≤ 1000000) :
    Calls Tryz.prog 23 #[.pointer (some ⟨b, 0, none⟩)] w fun e w' => e = .returned (.int .i64 D.pages) ∧ Chg (fun _ => False) w w' := by
  obtain ⟨sema, lv, pv, m, ho, hb, ⟨ls, hll, hla, _⟩, ⟨vs, hvl, hpa, hpv⟩, _, _, _, _⟩ := h
  have h3 : w.cell? ⟨b, 3, none⟩ = some lv := by simp [World.cell?, hb, strCells]
  have h4 : w.cell? ⟨b, 4, none⟩ = some pv := by simp [World.cell?, hb, strCells]
  obtain ⟨la, lc, rfl, _, _, _⟩ := ownsRow_slice hla.1
  obtain ⟨pa, pc, rfl, hpn, hpm, hpg⟩ := ownsRow_slice hpa.1
  clear hb
  unfold maxLen at hpm
  go_enter Tryz.func23, Tryz.ntmps23
  go_wp2
  go_loopw [3, 16] (fun n i wr => ∃ k : Nat, k ≤ D.pending.length ∧ i = .int .i64 k ∧ n = .int .i64 (pagesL (D.pending.take k) D.lasting.length) ∧ Chg (fun _ => False) w wr)
    (fun _ i _ => D.pending.length - (intOf i).toNat)
  case atStart => exact ⟨0, Nat.zero_le _, rfl, rfl, Chg.refl _ _⟩
  case round =>
    obtain ⟨k, hk, rfl, rfl, hchg⟩ := hrel
    by_cases hlt : k < D.pending.length
    · obtain ⟨g, rfl⟩ := hpg (by omega)
      have hrow := ownsRow_chg hpa.1 hchg (fun _ _ f => f)
      obtain ⟨q, hq⟩ : ∃ q, D.pending[k]? = some q := ⟨_, List.getElem?_eq_getElem hlt⟩
      obtain ⟨v, hv, gv, cv, rfl, _, _⟩ := hpv k q hq
      obtain ⟨e1, e2⟩ := pcells_get D.pending vs k q _ hq hv
      have c1 : wr.cell? ⟨g, k * 2, none⟩ = some (.int .i64 q.1) := (hrow.cellAt (k * 2) (by omega)).trans e1
      have c2 : wr.cell? ⟨g, k * 2 + 1, none⟩ = some (.slice (some ⟨gv, 0, none⟩) q.2.length cv) := (hrow.cellAt (k * 2 + 1) (by omega)).trans e2
      have hq1 : q.1 ≤ 1000000 := hp q (List.mem_of_getElem? hq)
      have hpl : pagesL (D.pending.take k) D.lasting.length ≤ 1000001 := pagesL_le _ _ _ (by omega) (fun q hq => hp q (List.mem_of_mem_take hq))
      have hst := Lib.hid (pagesL_snoc D.pending D.lasting.length k q hq)
      clear hrow e1 e2
      go_wp2
      go_roundw
      case rel => 
        exact ⟨k + 1, by omega, by go_num, by rw [hst.out]; congr 1; split <;> omega, hchg.alloc _⟩
      case measure => simp [intOf]; omega
    · go_wp2
      go_ret
      refine ⟨?_, hchg⟩
      rw [show k = D.pending.length by omega, List.take_length]
      rfl

end Go.Proofs.YtckioocahmbhkaaGreatDoor
