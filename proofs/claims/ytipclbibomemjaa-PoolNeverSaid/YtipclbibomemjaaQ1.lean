/- Walks: the law's has, rise, fits. -/
import Derived.Test.YtipclbibomemjaaU13
namespace Go.Proofs.Ytipclbibomemjaa
open Go Go.RowKit Go.Maps

def fitsB (cap : Int) (n : Nat) : Bool := decide (cap ≤ 20000 ∧ n ≤ 4000)
theorem fits_any (w : World) (cap : Int) (a : Option Addr) (n c : Nat) : Calls Try.prog 10 #[.int .i64 cap, .slice a n c] w fun e w' => e = .returned (.bool (fitsB cap n)) ∧ w = w' := by
  by_cases h1 : cap ≤ 20000
  · by_cases h2 : n ≤ 4000
    · have h3 : (n : Int) ≤ 4000 := by omega
      have HF : Hid (fitsB cap n = true) := Lib.hid (decide_eq_true ⟨h1, h2⟩)
      go_enter Try.func10, Try.ntmps10
      go_wp2
      go_ret
      exact ⟨by rw [HF.out]; rfl, rfl⟩
    · have h3 : ¬ (n : Int) ≤ 4000 := by omega
      have HF : Hid (fitsB cap n = false) := Lib.hid (decide_eq_false (fun h => h2 h.2))
      go_enter Try.func10, Try.ntmps10
      go_wp2
      go_ret
      exact ⟨by rw [HF.out]; rfl, rfl⟩
  · have HF : Hid (fitsB cap n = false) := Lib.hid (decide_eq_false (fun h => h1 h.1))
    go_enter Try.func10, Try.ntmps10
    go_wp2
    go_ret
    exact ⟨by rw [HF.out]; rfl, rfl⟩

def hasK (zs : List Int) (x : Int) : Bool := zs.contains x
theorem hasK_cons (y : Int) (zs : List Int) (x : Int) : hasK (y :: zs) x = (y == x || hasK zs x) := by
  unfold hasK; rw [List.contains_cons, Bool.beq_comm]

set_option maxRecDepth 100000 in
theorem has_any (w : World) (v : Value) (zs : List Int) (h : SeesI w v zs) (x : Int) (hl : zs.length ≤ 9223372036854775807) :
    Calls Try.prog 17 #[v, .int .i64 x] w fun e w' => e = .returned (.bool (hasK zs x)) ∧ w = w' := by
  obtain ⟨a, c, rfl, hn, hc⟩ := h
  have Hn := Lib.hid hn
  have Hc := Lib.hid hc
  clear hn hc
  go_enter Try.func17, Try.ntmps17
  go_wp2_with fail
  go_loopg [5] zs.length (fun gm iv wr => ∃ (k : Nat), k ≤ zs.length ∧ gm = zs.length - k ∧ iv = .int .i64 k ∧ w = wr ∧ hasK (zs.drop k) x = hasK zs x)
  case atStart => exact ⟨0, by omega, rfl, rfl, rfl, rfl⟩
  case round =>
    obtain ⟨k, hk, hg, rfl, rfl, hr⟩ := hrel
    have Hg := Lib.hid hg
    have Hr := Lib.hid hr
    clear hg hr
    by_cases hlt : k < zs.length
    · obtain ⟨y, hy⟩ : ∃ y, zs[k]? = some y := ⟨_, List.getElem?_eq_getElem hlt⟩
      have HD := Lib.hid (drop_cons hy)
      cases a with
      | none => have := Hn.out rfl; subst this; simp at hlt
      | some ad =>
        have cx := Hc.out ad rfl k y hy
        have hki : (k : Int) < (zs.length : Int) := by omega
        have hk0 : (0 : Int) ≤ (k : Int) := by omega
        clear hy
        by_cases t1 : y = x
        · have HF : Hid (hasK zs x = true) := Lib.hid (by rw [← Hr.out, HD.out, hasK_cons, beq_iff_eq.2 t1]; rfl)
          have t2 : (y == x) = true := beq_iff_eq.2 t1
          clear t1
          go_wp2_with fail
          go_ret
          exact ⟨by rw [HF.out]; rfl, rfl⟩
        · have t2 : (y == x) = false := beq_eq_false_iff_ne.2 t1
          have HF : Hid (hasK (zs.drop (k + 1)) x = hasK zs x) := Lib.hid (by rw [← Hr.out, HD.out, hasK_cons, t2]; rfl)
          clear t1
          go_wp2_with fail
          go_roundg (zs.length - (k + 1))
          case measure => have := Hg.out; omega
          case rel => exact ⟨k + 1, by omega, rfl, by go_num, rfl, HF.out⟩
    · have HF : Hid (hasK zs x = false) := Lib.hid (by rw [← Hr.out, List.drop_eq_nil_of_le (by omega)]; rfl)
      go_wp2_with fail
      go_ret
      exact ⟨by rw [HF.out]; rfl, rfl⟩

/-- Do numbers rise? -/
def riseP : Int → List Int → Bool
  | _, [] => true
  | last, n :: l => if n ≤ last then false else riseP n l
def riseL : List Int → Bool
  | [] => true
  | x :: l => riseP x l

set_option maxRecDepth 100000 in
theorem riseL_any (w : World) (v : Value) (zs : List Int) (h : SeesI w v zs) (hl : zs.length ≤ 1000000) :
    Calls Try.prog 16 #[v] w fun e w' => e = .returned (.bool (riseL zs)) ∧ Chg (fun _ => False) w w' := by
  have HS := Lib.hid h
  obtain ⟨a, c, rfl, hn, hc⟩ := h
  have Hn := Lib.hid hn
  clear hn hc
  go_enter Try.func16, Try.ntmps16
  go_wp2_with fail
  go_loopg [3] zs.length (fun gm iv wr => ∃ (k : Nat), 1 ≤ k ∧ (k ≤ zs.length ∨ k = 1) ∧ gm = zs.length + 1 - k ∧ iv = .int .i64 k ∧ Chg (fun _ => False) w wr ∧ ∀ x, zs[k - 1]? = some x → riseP x (zs.drop k) = riseL zs)
  case atStart =>
    refine ⟨1, by omega, .inr rfl, by omega, rfl, Chg.refl _ _, fun x hx => ?_⟩
    cases zs with
    | nil => simp at hx
    | cons y l => simp at hx; subst hx; rfl
  case round =>
    obtain ⟨k, hk1, hk, hg, rfl, hch, hr⟩ := hrel
    have Hg := Lib.hid hg
    have Hr := Lib.hid hr
    have HCh := Lib.hid hch
    clear hg hr
    by_cases hlt : k < zs.length
    · obtain ⟨y, hy⟩ : ∃ y, zs[k]? = some y := ⟨_, List.getElem?_eq_getElem hlt⟩
      obtain ⟨x, hx⟩ : ∃ x, zs[k - 1]? = some x := ⟨_, List.getElem?_eq_getElem (by omega)⟩
      have HY := Lib.hid hy
      have Hrx : Hid (riseP x (zs.drop k) = riseL zs) := Lib.hid (Hr.out x hx)
      have HD := Lib.hid (drop_cons hy)
      obtain ⟨m, hm⟩ : ∃ m, k = m + 1 := ⟨k - 1, by omega⟩
      have HMK := Lib.hid hm
      cases a with
      | none => have := Hn.out rfl; subst this; simp at hlt
      | some ad =>
        have cy : wr.cell? (ad.add k) = some (.int .i64 y) := by
          obtain ⟨a2, c2, e2, _, h2⟩ := HS.out.chg0 hch
          cases e2
          exact h2 ad rfl _ y hy
        have cx : wr.cell? (ad.add m) = some (.int .i64 x) := by
          obtain ⟨a2, c2, e2, _, h2⟩ := HS.out.chg0 hch
          cases e2
          exact h2 ad rfl m x (by rw [hm, Nat.add_sub_cancel] at hx; exact hx)
        have hw1 : IntKind.i64.wrap ((k : Int) - 1) = (m : Int) := by rw [wrapI (by omega) (by omega)]; omega
        have hki : (k : Int) < (zs.length : Int) := by omega
        have hk0 : (0 : Int) ≤ (k : Int) := by omega
        have hki' : (m : Int) < (zs.length : Int) := by omega
        have hk0' : (0 : Int) ≤ (m : Int) := by omega
        clear hx hy hch hm
        by_cases t1 : y ≤ x
        · have HF : Hid (riseL zs = false) := Lib.hid (by rw [← Hrx.out, HD.out]; unfold riseP; rw [if_pos t1])
          go_wp2_with fail
          go_quiet (fail)
          go_wp2_with fail
          go_ret
          exact ⟨by rw [HF.out]; rfl, HCh.out.drewN _⟩
        · have HF : Hid (riseP y (zs.drop (k + 1)) = riseL zs) := Lib.hid (by rw [← Hrx.out, HD.out]; conv => rhs; unfold riseP; rw [if_neg t1])
          go_wp2_with fail
          go_quiet (fail)
          go_wp2_with fail
          go_roundg (zs.length + 1 - (k + 1))
          case measure => have := Hg.out; omega
          case rel => exact ⟨k + 1, by omega, .inl (by omega), rfl, by go_num, HCh.out.drewN _, fun z hz => by rw [Nat.add_sub_cancel, HY.out] at hz; cases hz; exact HF.out⟩
    · have HF : Hid (riseL zs = true) := Lib.hid (by
        cases zs with
        | nil => rfl
        | cons y l =>
          have hk2 : k = (y :: l).length := by simp at hk hlt ⊢; omega
          obtain ⟨x, hx⟩ : ∃ x, (y :: l)[k - 1]? = some x := ⟨_, List.getElem?_eq_getElem (by simp at hk2 ⊢; omega)⟩
          rw [← Hr.out x hx, List.drop_eq_nil_of_le (by omega)]; rfl)
      clear hch
      go_wp2_with fail
      go_ret
      exact ⟨by rw [HF.out]; rfl, HCh.out⟩
end Go.Proofs.Ytipclbibomemjaa
