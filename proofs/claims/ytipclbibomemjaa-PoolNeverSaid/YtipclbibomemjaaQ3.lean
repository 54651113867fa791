/- Walks: the law PoolLists. -/
import Derived.Test.YtipclbibomemjaaQ2
namespace Go.Proofs.Ytipclbibomemjaa
open Go Go.RowKit Go.Maps

theorem SeesI.slice {w : World} {v : Value} {zs : List Int} (h : SeesI w v zs) : ∃ a c, v = .slice a zs.length c := by
  obtain ⟨a, c, rfl, _⟩ := h
  exact ⟨a, c, rfl⟩
theorem SeesI.under {w w' : World} {v : Value} {zs : List Int} (h : SeesI w v zs) (hb : Below w.heap.size w w') : SeesI w' v zs :=
  h.chg0 ⟨hb.os, hb.tape, hb.output, hb.size, fun k hk _ => hb.block k hk⟩

theorem fold_fine (count : Int) (free gone : List Int) (b : Bool) : gone.foldl (fineStep count free) b = (b && gone.all (fun x => !hasK free x && decide (2 ≤ x) && decide (x < count))) := by
  induction gone generalizing b with
  | nil => simp
  | cons x l ih =>
    rw [List.foldl_cons, ih, List.all_cons]
    unfold fineStep
    simp only [Bool.and_assoc]

theorem drop_foldl {count : Int} {free gone : List Int} {k : Nat} {x : Int} {b b' : Bool} (h : gone[k]? = some x) (hs : fineStep count free b x = b') : (gone.drop (k + 1)).foldl (fineStep count free) b' = (gone.drop k).foldl (fineStep count free) b := by
  rw [drop_cons h, List.foldl_cons, hs]

set_option maxRecDepth 100000 in
set_option maxHeartbeats 4000000 in
theorem lists_few (w : World) (count cap d : Int) (v2 v3 : Value) (free gone : List Int) (h2 : SeesI w v2 free) (h3 : SeesI w v3 gone) (hno : ¬ (fitsB cap free.length = true ∧ gone.length ≤ 4000)) :
    Calls Try.prog 6 #[.int .i64 count, .int .i64 cap, v2, v3, .int .i64 d] w fun e w' => e = .returned (.bool true) ∧ Below w.heap.size w w' := by
  obtain ⟨a2, c2, rfl⟩ := h2.slice
  obtain ⟨a3, c3, rfl⟩ := h3.slice
  cases hf : fitsB cap free.length with
  | false =>
    have HF := Lib.hid hf
    clear hno hf
    go_enter Try.func6, Try.ntmps6
    go_wp2_with (first
      | (go_at_call 7; refine (first_any _).mono ?_; rintro e wa ⟨rfl, ba⟩; have BA := Lib.hid ba; clear ba)
      | (go_at_call 10; refine (fits_any _ _ _ _ _).mono ?_; rintro e wa ⟨rfl, rfl⟩; rw [HF.out]))
    go_ret
    exact ⟨rfl, BA.out⟩
  | true =>
    have HF := Lib.hid hf
    have hl : (4000 : Int) < (gone.length : Int) := by
      rw [hf] at hno
      have : ¬ gone.length ≤ 4000 := fun e => hno ⟨rfl, e⟩
      omega
    clear hno hf
    go_enter Try.func6, Try.ntmps6
    go_wp2_with (first
      | (go_at_call 7; refine (first_any _).mono ?_; rintro e wa ⟨rfl, ba⟩; have BA := Lib.hid ba; clear ba)
      | (go_at_call 10; refine (fits_any _ _ _ _ _).mono ?_; rintro e wa ⟨rfl, rfl⟩; rw [HF.out]))
    go_ret
    exact ⟨rfl, BA.out⟩

set_option maxRecDepth 100000 in
set_option maxHeartbeats 4000000 in
theorem lists_nil (w : World) (count cap d : Int) (v2 v3 : Value) (free gone : List Int) (h2 : SeesI w v2 free) (h3 : SeesI w v3 gone) (hf : fitsB cap free.length = true) (hg : gone.length ≤ 4000) (hno : ¬ newOk count cap free) :
    Calls Try.prog 6 #[.int .i64 count, .int .i64 cap, v2, v3, .int .i64 d] w fun e w' => e = .returned (.bool true) ∧ Below w.heap.size w w' := by
  have H2 := Lib.hid h2
  obtain ⟨a2, c2, rfl⟩ := h2.slice
  obtain ⟨a3, c3, rfl⟩ := h3.slice
  have hl : ¬ (4000 : Int) < (gone.length : Int) := by omega
  have hfl : free.length ≤ 4000 := (of_decide_eq_true hf).2
  have hfl2 : free.length ≤ 1000000 := by omega
  have hfl3 : free.length ≤ 9223372036854775807 := by omega
  have HF := Lib.hid hf
  have HN := Lib.hid hno
  clear hf hno hg h2 h3
  go_enter Try.func6, Try.ntmps6
  go_wp2_with (first
    | (go_at_call 7; refine (first_any _).mono ?_; rintro e wa ⟨rfl, ba⟩; have BA := Lib.hid ba; clear ba)
    | (go_at_call 10; refine (fits_any _ _ _ _ _).mono ?_; rintro e wa ⟨rfl, rfl⟩; rw [HF.out])
    | (go_at_call 21; refine (ints_any _ _ free (H2.out.under BA.out) hfl2).mono ?_; rintro e wb ⟨gb, cb, rfl, hN, hc⟩; have HS := Lib.hid hN.sees; have BB : Hid (Below w.heap.size w wb) := Lib.hid (BA.out.trans ((hc.toBelow (fun _ f => f.elim)).mono BA.out.size)); clear hN hc)
    | (go_at_call 12; refine (new_no _ _ free HS.out _ _ hfl3 HN.out).mono ?_; rintro e wc ⟨rfl, rfl⟩))
  go_ret
  exact ⟨rfl, BB.out⟩
end Go.Proofs.Ytipclbibomemjaa
