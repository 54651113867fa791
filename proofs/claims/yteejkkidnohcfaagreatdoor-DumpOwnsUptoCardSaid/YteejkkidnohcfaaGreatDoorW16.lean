/- Walk: few. -/
import Derived.Test.YteejkkidnohcfaaGreatDoorW9
namespace Go.Proofs.YteejkkidnohcfaaGreatDoor
open Go Go.RowKit Go.Maps

def sumB (ps : List PairB) : Nat := (ps.map fun p => p.1.length + p.2.length).sum
theorem linesOf_le (ps : List PairB) : (linesOf ps).length ≤ 2 * sumB ps + 4 * ps.length := by
  induction ps with
  | nil => simp [linesOf, sumB]
  | cons p l ih =>
    rw [linesOf_cons, List.length_append]
    have h1 := hexB_length p.1
    have h2 := hexB_length p.2
    have h3 : (lineOf p).length = (hexB p.1).length + (hexB p.2).length + 2 := by simp [lineOf]; omega
    have h4 : sumB (p :: l) = p.1.length + p.2.length + sumB l := by simp [sumB]
    rw [h4, List.length_cons]
    omega
theorem sumB_snoc (ps : List PairB) (p : PairB) : sumB (ps ++ [p]) = sumB ps + p.1.length + p.2.length := by simp [sumB]; omega
def ShortP (ps : List PairB) : Prop := ∀ p ∈ ps, p.1.length ≤ 1048576 ∧ p.2.length ≤ 1048576
/-- What few lets through. -/
structure FewP (ps : List PairB) : Prop where
  small : SmallP ps
  len : ps.length ≤ 2000
  lines : (linesOf ps).length ≤ 8396608
theorem small_of {ps : List PairB} (h1 : ps.length ≤ 2000) (h2 : ShortP ps) (h3 : sumB ps ≤ 4194304) : FewP ps :=
  ⟨⟨fun p hp => by have := h2 p hp; omega, by omega, by have := linesOf_le ps; omega⟩, h1, by have := linesOf_le ps; omega⟩

/-- What few answers: true of small pairs alone. -/
def FewAns (ps : List PairB) (w w' : World) (e : Ending) : Prop := ∃ b : Bool, e = .returned (.bool b) ∧ (b = true → FewP ps) ∧ Chg (fun _ => False) w w'

set_option maxRecDepth 100000 in
set_option maxHeartbeats 4000000 in
theorem few_any (w : World) (v : Value) (ps : List PairB) (h : SeesP w v ps) (hl : ps.length ≤ 9223372036854775807) :
    Calls Tryz.prog 5 #[v] w fun e w' => FewAns ps w w' e := by
  have H1 := Lib.hid h
  obtain ⟨a, c, rfl, hn, hc⟩ := h
  have Hn := Lib.hid hn
  clear hn hc
  by_cases hlen : 2000 < ps.length
  · have hb : (2000 : Int) < (ps.length : Int) := by omega
    clear hlen
    go_enter Tryz.func5, Tryz.ntmps5
    go_wp2
    go_ret
    exact ⟨_, rfl, (fun h => by cases h), Chg.refl _ _⟩
  · have hb : ¬ (2000 : Int) < (ps.length : Int) := by omega
    go_enter Tryz.func5, Tryz.ntmps5
    go_wp2_with fail
    go_loopg [3, 4] ps.length (fun gm nv iv wr => ∃ (k : Nat), k ≤ ps.length ∧ gm = ps.length - k ∧ iv = .int .i64 k ∧ nv = .int .i64 (sumB (ps.take k) : Nat) ∧ Chg (fun _ => False) w wr ∧ ShortP (ps.take k) ∧ sumB (ps.take k) ≤ k * 2097152)
    case atStart => exact ⟨0, by omega, rfl, rfl, rfl, Chg.refl _ _, (fun p hp => by simp at hp), by simp [sumB]⟩
    case round =>
      obtain ⟨k, hk, hg, rfl, rfl, hch, hr, hsum⟩ := hrel
      have HCh := Lib.hid hch
      have Hg := Lib.hid hg
      have Hr := Lib.hid hr
      clear hg hr hch
      by_cases hlt : k < ps.length
      · obtain ⟨p, hp⟩ : ∃ p, ps[k]? = some p := ⟨_, List.getElem?_eq_getElem hlt⟩
        cases a with
        | none => have := Hn.out rfl; subst this; simp at hlt
        | some ad =>
          obtain ⟨_, _, e1, _, f1⟩ := H1.out.chg0 HCh.out
          cases e1
          obtain ⟨k1, u1, ck1, cu1, s1, t1⟩ := f1 ad rfl k p hp
          have cu1' : wr.cell? ⟨(ad.add (k * 2)).block, (ad.add (k * 2)).off + 1, none⟩ = some u1 := by
            have h3 : wr.cell? ((ad.add (k * 2)).add 1) = some u1 := by rw [add_add]; exact cu1
            exact h3
          have HT := Lib.hid (take_snoc hp)
          have HS' := Lib.hid (sumB_snoc (ps.take k) p)
          obtain ⟨x1, x2, rfl, _, _⟩ := s1
          obtain ⟨x3, x4, rfl, _, _⟩ := t1
          have hki : (k : Int) < (ps.length : Int) := by omega
          have hk0 : (0 : Int) ≤ (k : Int) := by omega
          obtain ⟨S, hS⟩ : ∃ S, S = sumB (ps.take k) := ⟨_, rfl⟩
          rw [← hS] at hsum
          have HSS := Lib.hid hS
          clear hp cu1 f1
          rw [← HSS.out]
          clear hS
          by_cases g1 : 1048576 < p.1.length
          · have g1i : (1048576 : Int) < (p.1.length : Int) := by omega
            go_wp2_with fail
            go_ret
            exact ⟨_, rfl, (fun h => by cases h), HCh.out⟩
          · have g1i : ¬ (1048576 : Int) < (p.1.length : Int) := by omega
            by_cases g2 : 1048576 < p.2.length
            · have g2i : (1048576 : Int) < (p.2.length : Int) := by omega
              go_wp2_with fail
              go_ret
              exact ⟨_, rfl, (fun h => by cases h), HCh.out⟩
            · have g2i : ¬ (1048576 : Int) < (p.2.length : Int) := by omega
              go_wp2_with fail
              go_quiet (fail)
              go_wp2_with fail
              go_roundg (ps.length - (k + 1))
              case measure => have := Hg.out; omega
              case rel => exact ⟨k + 1, by omega, rfl, by go_num, by rw [HT.out, HS'.out, ← HSS.out]; go_num, HCh.out.drewN _, (by rw [HT.out]; intro q hq; rcases List.mem_append.1 hq with h | h; exact Hr.out q h; simp at h; subst h; omega), by rw [HT.out, HS'.out, ← HSS.out]; omega⟩
      · have HK : Hid (ps.take k = ps) := Lib.hid (List.take_of_length_le (by omega))
        by_cases g3 : sumB (ps.take k) ≤ 4194304
        · have g3i : ((sumB (ps.take k) : Nat) : Int) ≤ 4194304 := by omega
          go_wp2_with fail
          go_ret
          exact ⟨_, rfl, (fun _ => small_of (by omega) (by have := Hr.out; rwa [HK.out] at this) (by rw [HK.out] at g3; exact g3)), HCh.out⟩
        · have g3i : ¬ ((sumB (ps.take k) : Nat) : Int) ≤ 4194304 := by omega
          go_wp2_with fail
          go_ret
          exact ⟨_, rfl, (fun h => by cases h), HCh.out⟩
end Go.Proofs.YteejkkidnohcfaaGreatDoor
