/- The statement PoolLists: for every count, cap, list of free numbers, list of numbers given up and every number of pages wanted the law PoolLists returns true, on every run. No condition. -/
import Derived.Test.YtipclbibomemjaaRows
import Derived.Test.YtipclbibomemjaaQ4
import Derived.Test.YtipclbibomemjaaQ5
import Derived.WalkKit
import Derived.ProofKit
import Derived.OpenShut
namespace Go.Proofs.Ytipclbibomemjaa.poolLists
open Go Go.RowKit Go.Maps
open Go.ChangeShapes Go.WideShapes Go.ChangeAt
set_option linter.unusedVariables false

theorem own : ownKnob Try.prog.godebug = none := by kernel_rfl
theorem laidOut : laidOutB Try.prog = true := by kernel_rfl

theorem walk (w : World) (count cap d : Int) (v2 v3 : Value) (free gone : List Int) (h2 : SeesI w v2 free) (h3 : SeesI w v3 gone) (hwf : ∀ x ∈ gone, (Lit.int .i64 x).wf = true) :
    Calls Try.prog 6 #[.int .i64 count, .int .i64 cap, v2, v3, .int .i64 d] w fun e w' => e = .returned (.bool true) ∧ Below w.heap.size w w' := by
  by_cases h1 : fitsB cap free.length = true ∧ gone.length ≤ 4000
  · by_cases hn : newOk count cap free
    · cases hB : fineB count free gone d with
      | false => exact lists_go w count cap d v2 v3 free gone h2 h3 hwf h1.1 h1.2 hn hB (lists_no hn hB) (fun _ => rfl) (fun e => by cases e)
      | true =>
        obtain ⟨f, e, h5, h6⟩ := lists_yes hn hB (of_decide_eq_true h1.1).2 h1.2
        exact lists_go w count cap d v2 v3 free gone h2 h3 hwf h1.1 h1.2 hn hB e (fun e => by cases e) (fun _ => ⟨((fine_iff hn).1 hB).1, f, rfl, h5, h6⟩)
    · exact lists_nil w count cap d v2 v3 free gone h2 h3 h1.1 h1.2 hn
  · exact lists_few w count cap d v2 v3 free gone h2 h3 h1

set_option maxRecDepth 100000 in
theorem lifted (os : Os) (started : os.Started) (H : Type) (enc : TypeId × Value → H) :
    ReturnsInHanded {} Try.checked os 6 .any (Rows.poolListsSpec.pre6 enc Try.prog Try.f6 Rows.poolListsRow.domain false) (Rows.poolListsSpec.post enc Try.prog Try.f6 false true false false) := by
  refine returnsInHanded_of_change (C := Try.checked) own started (by kernel_rfl) Try.func6
    (ChangeSpec.witness6 (enc := enc) (C := Try.checked) false ⟨#[], #[.int .i64 0, .int .i64 0, .slice none 0 0, .slice none 0 0, .int .i64 0], []⟩ 8 (by kernel_rfl) (by kernel_rfl) (by kernel_rfl) (by kernel_rfl)) ?_
  intro W base args ds gs before hval0 hW hcnd _
  have hval : ∀ (j : Nat) t v, Try.f6.params[j]? = some t → args[j]? = some v → Value.okWide Try.prog W .any base t v := hval0
  have hW' := hW
  obtain ⟨p, q, hA0, hV, rfl, hfz, hnd⟩ := hW
  have hA : DataW.TrodAll enc Try.prog W 0 (fun _ => true) true Try.f6.params.toList args.toList ds p := hA0
  rw [Try.params6] at hA hval
  obtain ⟨v0, vs0, d0, ds0, p0, q0, hargs, rfl, rfl, h0, r0⟩ := trodAll_cons hA
  obtain ⟨v1, vs1, d1, ds1, p1, q1, rfl, rfl, rfl, h1, r1⟩ := trodAll_cons r0
  obtain ⟨v2, vs2, d2, ds2, p2, q2, rfl, rfl, rfl, h2, r2⟩ := trodAll_cons r1
  obtain ⟨v3, vs3, d3, ds3, p3, q3, rfl, rfl, rfl, h3, r3⟩ := trodAll_cons r2
  obtain ⟨v4, vs4, d4, ds4, p4, q4, rfl, rfl, rfl, h4, r4⟩ := trodAll_cons r3
  obtain ⟨rfl, rfl, rfl⟩ := trodAll_nil r4
  obtain rfl : args = #[v0, v1, v2, v3, v4] := by cases args; simp_all
  obtain ⟨rfl, rfl⟩ := trodVars_none hV
  have k2 := h2
  have lt2 : ∀ x ∈ p2, x.block < W.heap.size := by obtain ⟨m, hm⟩ := k2; exact DataW.trod_lt m _ _ _ hm
  have k3 := h3
  have lt3 : ∀ x ∈ p3, x.block < W.heap.size := by obtain ⟨m, hm⟩ := k3; exact DataW.trod_lt m _ _ _ hm
  obtain ⟨a0, rfl, rfl, rfl, w0⟩ := open_int Try.underlying3 (hval 0 3 v0 rfl rfl) h0
  obtain ⟨a1, rfl, rfl, rfl, w1⟩ := open_int Try.underlying3 (hval 1 3 v1 rfl rfl) h1
  obtain ⟨fuel2, hf2⟩ := h2
  obtain ⟨a2, l2, c2, e2⟩ := okWide_slice Try.underlying22 (hval 2 22 v2 rfl rfl)
  obtain ⟨zs2, s2, _, _⟩ : ∃ zs, SeesI W v2 zs ∧ (∀ x ∈ zs, (Lit.int .i64 x).wf = true) ∧ zs.length ≤ maxLen := by subst e2; exact open_ints hf2
  obtain ⟨fuel3, hf3⟩ := h3
  obtain ⟨a3, l3, c3, e3⟩ := okWide_slice Try.underlying22 (hval 3 22 v3 rfl rfl)
  obtain ⟨zs3, s3, wf3, _⟩ : ∃ zs, SeesI W v3 zs ∧ (∀ x ∈ zs, (Lit.int .i64 x).wf = true) ∧ zs.length ≤ maxLen := by subst e3; exact open_ints hf3
  obtain ⟨a4, rfl, rfl, rfl, w4⟩ := open_int Try.underlying3 (hval 4 3 v4 rfl rfl) h4
  clear hA0 hval0
  refine (walk W a0 a1 a4 v2 v3 zs2 zs3 s2 s3 wf3).mono fun e W' ⟨he, bel⟩ => ?_
  subst he
  exact ⟨_, rfl, _, _, _, [], _, [], hW', trodAll_mk1 (shut_bool Try.underlying4 _), (trodAll_cons_mk (shut_int Try.underlying3 w0) (trodAll_cons_mk (shut_int Try.underlying3 w1) (trodAll_cons_mk (Below.trod laidOut (by kernel_rfl) (of_decide_eq_true (by kernel_rfl)) k2 bel lt2) (trodAll_cons_mk (Below.trod laidOut (by kernel_rfl) (of_decide_eq_true (by kernel_rfl)) k3 bel lt3) (trodAll_cons_mk (shut_int Try.underlying3 w4) trodAll_mk0))))), rfl, bel.frame _, fun h => by cases h⟩

theorem over : Rows.poolListsRow.holds Try.pinned (OpenSpec.ofChange Rows.poolListsSpec) :=
  OpenClaim.holds_of_wide 6 Try.f6 rfl rfl rfl rfl rfl rfl rfl ⟨rfl, rfl, rfl, rfl, rfl⟩ rfl rfl rfl rfl rfl (by kernel_rfl) Try.func6 (by kernel_rfl)
    (of_decide_eq_true (by kernel_rfl)) (by unfold Func.isWrapper; first | (rw [if_pos (by decide +kernel)]; kernel_rfl) | (rw [if_neg (by decide +kernel)]; exact ⟨rfl, rfl⟩))
    (fun os started H enc _ => lifted os started H enc)

theorem proved : Rows.PoolListsSaid :=
  over
#print axioms proved
end Go.Proofs.Ytipclbibomemjaa.poolLists
