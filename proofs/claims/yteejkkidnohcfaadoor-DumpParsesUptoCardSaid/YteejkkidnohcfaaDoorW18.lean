/- Words on texts and parses, for the laws. -/
import Derived.Test.YteejkkidnohcfaaDoorW14
import Derived.Test.YteejkkidnohcfaaDoorW16
import Derived.Test.YteejkkidnohcfaaDoorW17
namespace Go.Proofs.YteejkkidnohcfaaDoor
open Go Go.RowKit Go.Maps

theorem text_q (w : World) (hE : Env w) (v : Value) (ps : List PairB) (h : SeesP w v ps) (hs : SmallP ps) (T : ByteArray) (c : Int) (ht : textB ps = (T.data.toList, c)) :
    Calls Tryd.prog 19 #[v] w fun e w' => e = .returned (.tuple #[.string T, .int .i64 c]) ∧ Chg (fun _ => False) w w' := by
  refine (text_any w hE v ps h hs).mono ?_
  rintro e w' ⟨rfl, hc⟩
  rw [ht]
  exact ⟨rfl, hc⟩
theorem may_q (w : World) (v : Value) (ps : List PairB) (h : SeesP w v ps) (hs : SmallP ps) (t : Bytes) (c : Int) (b : Bool) (ht : textB ps = (t, c)) (hb : b = decide (c = 0)) :
    Calls Tryd.prog 25 #[v] w fun e w' => e = .returned (.bool b) ∧ Chg (fun _ => False) w w' := by
  have h1 : decide (faultOf ps none = 0) = b := by
    rw [hb]
    have := text_iff ps
    rw [ht] at this
    exact decide_eq_decide.2 this.symm
  have := mayAll_any w v ps h hs
  rwa [h1] at this
theorem parse_q (w : World) (hE : Env w) (s : ByteArray) (hs : s.size ≤ 134217728) (q : List PairB) (n : Nat) (c : Int) (hp : parseB s.data.toList = (q, n, c)) :
    Calls Tryd.prog 26 #[.string s] w fun e w' => ∃ a k, e = .returned (.tuple #[.slice a q.length k, .int .i64 (n : Int), .int .i64 c]) ∧ SeesP w' (.slice a q.length k) q ∧ Chg (fun _ => False) w w' := by
  refine (parse_any w hE s hs).mono ?_
  rintro e w' ⟨⟨v, vs, rfl, hr⟩, hc⟩
  rw [hp] at hr ⊢
  obtain ⟨a, k, rfl⟩ := hr.shape
  exact ⟨a, k, rfl, hr.seesP, hc⟩
theorem few_text {ps : List PairB} {t : Bytes} (h : FewP ps) (ht : textB ps = (t, 0)) : t.length ≤ 134217728 := by
  rw [text_ok ht, headOf, List.length_append, List.length_append, List.length_append]
  have h1 := h.lines
  have h2 := decB_length 3 ps.length (by have := h.len; omega)
  have h3 : word.length = 8 := rfl
  have h4 : ([10] : Bytes).length = 1 := rfl
  omega
theorem lineOf_bounds (p : PairB) : p.1.length + p.2.length + 1 ≤ (lineOf p).length := by
  have h (l : Bytes) : l.length ≤ (hexB l).length := by
    unfold hexB
    split
    · rename_i e; subst e; simp
    · rw [hexs_length]; omega
  have h1 := h p.1
  have h2 := h p.2
  simp only [lineOf, List.length_append, List.length_cons, List.length_nil]
  omega
theorem linesOf_all (q : List PairB) : q.length ≤ (linesOf q).length ∧ ∀ p ∈ q, p.1.length + p.2.length ≤ (linesOf q).length := by
  induction q with
  | nil => exact ⟨Nat.le_refl _, fun p hp => by cases hp⟩
  | cons x q ih =>
    have h := lineOf_bounds x
    rw [linesOf_cons, List.length_append, List.length_cons]
    refine ⟨by omega, fun p hp => ?_⟩
    rcases List.mem_cons.1 hp with rfl | hp
    · omega
    · have := ih.2 p hp; omega
theorem small_parse {q : List PairB} {t : Bytes} (ht : textB q = (t, 0)) (hl : t.length ≤ 1048576) : SmallP q := by
  have h1 := text_ok ht
  have h2 : (linesOf q).length ≤ t.length := by rw [h1, List.length_append]; omega
  obtain ⟨h3, h4⟩ := linesOf_all q
  exact ⟨fun p hp => by have := h4 p hp; omega, by omega, by omega⟩
theorem bytes_beq (a b : ByteArray) : (a.toList == b.toList) = decide (a.data.toList = b.data.toList) := by
  rw [Lib.toList_data, Lib.toList_data]
  by_cases h : a.data.toList = b.data.toList
  · rw [h]; simp
  · rw [decide_eq_false h, beq_eq_false_iff_ne]; exact h
end Go.Proofs.YteejkkidnohcfaaDoor
