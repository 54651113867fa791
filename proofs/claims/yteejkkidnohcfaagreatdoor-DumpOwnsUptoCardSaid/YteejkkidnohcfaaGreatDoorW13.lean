/- Walks: the chapter's examples ('first'). -/
import Derived.Test.YteejkkidnohcfaaGreatDoorW12
import Derived.Test.YteejkkidnohcfaaGreatDoorW11
import Derived.Lib.SmallJoins
namespace Go.Proofs.YteejkkidnohcfaaGreatDoor
open Go Go.RowKit Go.Maps

def firstL : List PairB := [([97], [1]), ([98], [])]
abbrev firstT : ByteArray := ⟨#[99, 111, 112, 112, 105, 99, 101, 32, 50, 10, 54, 49, 32, 48, 49, 10, 54, 50, 32, 45, 10]⟩
theorem dec2 : decB 2 = [50] := by unfold decB; rfl
theorem firstL_text : textB firstL = (firstT.data.toList, 0) := by
  have h1 : faultOf firstL none = 0 := by decide
  have h2 : linesOf firstL = [54, 49, 32, 48, 49, 10, 54, 50, 32, 45, 10] := by decide
  unfold textB
  rw [if_pos h1, h2, headOf, show firstL.length = 2 from rfl, dec2]
  rfl
theorem firstL_parse : parseB firstT.data.toList = (firstL, 0, 0) := parse_text firstL_text (by decide)
theorem firstP : parseB [99, 111, 112, 112, 105, 99, 101, 32, 49, 10, 54, 49, 32, 32, 48, 49, 10] = ([], 2, 200) := by decide
theorem firstU : unhexB [48, 65] = none := by decide
theorem firstV : unhexB [48, 48, 102, 102] = some [0, 255] := by decide
theorem firstH : hexB [] = [45] := rfl
theorem firstI : hexB [10] = [48, 97] := by decide

/-- The example's pairs in memory. -/
theorem first_sees (w : World) : SeesP ((((w.alloc (.cells #[.int .u8 97] 5 (1, 2))).alloc (.cells #[.int .u8 1] 5)).alloc (.cells #[.int .u8 98] 5 (1, 2))).alloc (.cells #[.slice (some ⟨w.heap.size, 0, none⟩) 1 1, .slice (some ⟨w.heap.size + 1, 0, none⟩) 1 1, .slice (some ⟨w.heap.size + 2, 0, none⟩) 1 1, .slice none 0 0] 54)) (.slice (some ⟨w.heap.size + 3, 0, none⟩) 2 2) firstL := by
  obtain ⟨W, hW⟩ : ∃ W, W = (((w.alloc (.cells #[.int .u8 97] 5 (1, 2))).alloc (.cells #[.int .u8 1] 5)).alloc (.cells #[.int .u8 98] 5 (1, 2))).alloc (.cells #[.slice (some ⟨w.heap.size, 0, none⟩) 1 1, .slice (some ⟨w.heap.size + 1, 0, none⟩) 1 1, .slice (some ⟨w.heap.size + 2, 0, none⟩) 1 1, .slice none 0 0] 54) := ⟨_, rfl⟩
  have s1 : (w.alloc (.cells #[.int .u8 97] 5 (1, 2))).heap.size = w.heap.size + 1 := Array.size_push _
  have s2 : ((w.alloc (.cells #[.int .u8 97] 5 (1, 2))).alloc (.cells #[.int .u8 1] 5)).heap.size = w.heap.size + 2 := (Array.size_push _).trans (by rw [s1])
  have s3 : (((w.alloc (.cells #[.int .u8 97] 5 (1, 2))).alloc (.cells #[.int .u8 1] 5)).alloc (.cells #[.int .u8 98] 5 (1, 2))).heap.size = w.heap.size + 3 := (Array.size_push _).trans (by rw [s2])
  have b0 : W.heap[w.heap.size]? = some (.cells #[.int .u8 97] 5 (1, 2)) := by rw [hW]; exact heap_alloc_keep _ (heap_alloc_keep _ (heap_alloc_keep _ (heap_alloc_new w _)))
  have b1 : W.heap[w.heap.size + 1]? = some (.cells #[.int .u8 1] 5) := by
    rw [hW]; refine heap_alloc_keep _ (heap_alloc_keep _ ?_)
    have := heap_alloc_new (w.alloc (.cells #[.int .u8 97] 5 (1, 2))) (.cells #[.int .u8 1] 5)
    rw [s1] at this; exact this
  have b2 : W.heap[w.heap.size + 2]? = some (.cells #[.int .u8 98] 5 (1, 2)) := by
    rw [hW]; refine heap_alloc_keep _ ?_
    have := heap_alloc_new ((w.alloc (.cells #[.int .u8 97] 5 (1, 2))).alloc (.cells #[.int .u8 1] 5)) (.cells #[.int .u8 98] 5 (1, 2))
    rw [s2] at this; exact this
  have b3 : W.heap[w.heap.size + 3]? = some (.cells #[.slice (some ⟨w.heap.size, 0, none⟩) 1 1, .slice (some ⟨w.heap.size + 1, 0, none⟩) 1 1, .slice (some ⟨w.heap.size + 2, 0, none⟩) 1 1, .slice none 0 0] 54) := by
    rw [hW]
    have := heap_alloc_new (((w.alloc (.cells #[.int .u8 97] 5 (1, 2))).alloc (.cells #[.int .u8 1] 5)).alloc (.cells #[.int .u8 98] 5 (1, 2))) (.cells #[.slice (some ⟨w.heap.size, 0, none⟩) 1 1, .slice (some ⟨w.heap.size + 1, 0, none⟩) 1 1, .slice (some ⟨w.heap.size + 2, 0, none⟩) 1 1, .slice none 0 0] 54)
    rw [s3] at this; exact this
  rw [← hW]
  have one : ∀ (g : Nat) (x : UInt8) (fz : Nat × Nat), W.heap[g]? = some (.cells #[.int .u8 x.toNat] 5 fz) → SeesB W (.slice (some ⟨g, 0, none⟩) 1 1) [x] := fun g x fz hg => by
    refine ⟨_, _, rfl, (fun e => by cases e), fun ad e j y hy => ?_⟩
    cases e
    have hj : j = 0 := by have := (List.getElem?_eq_some_iff.1 hy).1; simp at this; omega
    subst hj
    simp at hy; subst hy
    rw [addr_add, Lib.cell_of_heap hg]; rfl
  refine ⟨_, _, rfl, (fun e => by cases e), fun ad e j p hp => ?_⟩
  cases e
  match j, hp with
  | 0, hp =>
    simp [firstL] at hp; subst hp
    exact ⟨_, _, by rw [addr_add, Lib.cell_of_heap b3]; rfl, by rw [addr_add, Lib.cell_of_heap b3]; rfl, one _ 97 _ b0, one _ 1 _ b1⟩
  | 1, hp =>
    simp [firstL] at hp; subst hp
    exact ⟨_, _, by rw [addr_add, Lib.cell_of_heap b3]; rfl, by rw [addr_add, Lib.cell_of_heap b3]; rfl, one _ 98 _ b2, SeesB.nil _ _ _⟩
  | j + 2, hp => simp [firstL] at hp

theorem first_small : SmallP firstL := ⟨by decide, by decide, by decide⟩
theorem f_text (w : World) (hE : Env w) (v : Value) (h : SeesP w v firstL) : Calls Tryz.prog 15 #[v] w fun e w' => e = .returned (.tuple #[.string firstT, .int .i64 0]) ∧ Chg (fun _ => False) w w' := by
  refine (text_any w hE v firstL h first_small).mono ?_
  rintro e w' ⟨rfl, hc⟩
  rw [firstL_text]
  exact ⟨rfl, hc⟩
theorem f_parse (w : World) (hE : Env w) : Calls Tryz.prog 7 #[.string firstT] w fun e w' => ∃ a c, e = .returned (.tuple #[.slice a 2 c, .int .i64 0, .int .i64 0]) ∧ SeesP w' (.slice a 2 c) firstL ∧ Chg (fun _ => False) w w' := by
  refine (parse_any w hE firstT (by decide)).mono ?_
  rintro e w' ⟨⟨v, vs, rfl, hr, -⟩, hc⟩
  rw [firstL_parse] at hr ⊢
  obtain ⟨a, c, rfl⟩ := hr.shape
  exact ⟨a, c, rfl, hr.seesP, hc⟩
theorem f_parse2 (w : World) (hE : Env w) : Calls Tryz.prog 7 #[.string ⟨#[99, 111, 112, 112, 105, 99, 101, 32, 49, 10, 54, 49, 32, 32, 48, 49, 10]⟩] w fun e w' => ∃ a c, e = .returned (.tuple #[.slice a 0 c, .int .i64 2, .int .i64 200]) ∧ Chg (fun _ => False) w w' := by
  refine (parse_any w hE _ (by decide)).mono ?_
  rintro e w' ⟨⟨v, vs, rfl, hr, -⟩, hc⟩
  have hp : parseB (ByteArray.mk #[99, 111, 112, 112, 105, 99, 101, 32, 49, 10, 54, 49, 32, 32, 48, 49, 10]).data.toList = ([], 2, 200) := firstP
  rw [hp] at hr ⊢
  obtain ⟨a, c, rfl⟩ := hr.shape
  exact ⟨a, c, rfl, hc⟩
theorem f_unhex (w : World) : Calls Tryz.prog 11 #[.string ⟨#[48, 65]⟩] w fun e w' => e = .returned (.tuple #[.slice none 0 0, .int .i64 201]) ∧ Chg (fun _ => False) w w' := by
  refine (unhex_any w _ (by decide)).mono ?_
  rintro e w' ⟨⟨_, h⟩ | ⟨a, bs, c, h, _⟩, hc⟩
  · exact ⟨h, hc⟩
  · have : unhexB (ByteArray.mk #[48, 65]).data.toList = none := firstU
    rw [this] at h; cases h
theorem f_unhex2 (w : World) : Calls Tryz.prog 11 #[.string ⟨#[48, 48, 102, 102]⟩] w fun e w' => ∃ g c, e = .returned (.tuple #[.slice (some ⟨g, 0, none⟩) 2 c, .int .i64 0]) ∧ w'.cell? ⟨g, 1, none⟩ = some (.int .u8 255) ∧ Chg (fun _ => False) w w' := by
  refine (unhex_any w _ (by decide)).mono ?_
  have hv : unhexB (ByteArray.mk #[48, 48, 102, 102]).data.toList = some [0, 255] := firstV
  rintro e w' ⟨⟨h, _⟩ | ⟨a, bs, c, h, rfl, hr, _⟩, hc⟩
  · rw [hv] at h; cases h
  · rw [hv] at h
    cases h
    obtain ⟨a2, c2, e2, _, _, hg⟩ := ownsRow_slice hr
    obtain ⟨g, hg⟩ := hg (by decide)
    cases e2
    subst hg
    refine ⟨g, c, rfl, ?_, hc⟩
    rw [hr.cellAt 1 (by decide)]; rfl
theorem f_hex (w : World) : Calls Tryz.prog 16 #[.slice none 0 0] w fun e w' => e = .returned (.string ⟨#[45]⟩) ∧ Chg (fun _ => False) w w' := hex_any w (.slice none 0 0) [] (SeesB.nil _ _ _) (by decide)
theorem f_hex2 (w : World) (g : Nat) (h : w.cell? ⟨g, 0, none⟩ = some (.int .u8 10)) : Calls Tryz.prog 16 #[.slice (some ⟨g, 0, none⟩) 1 1] w fun e w' => e = .returned (.string ⟨#[48, 97]⟩) ∧ Chg (fun _ => False) w w' := by
  have hs : SeesB w (.slice (some ⟨g, 0, none⟩) 1 1) [10] := ⟨_, _, rfl, (fun e => by cases e), fun ad e j y hy => by
    cases e
    have hj : j = 0 := by have := (List.getElem?_eq_some_iff.1 hy).1; simp at this; omega
    subst hj
    simp at hy; subst hy
    rw [addr_add]; exact h⟩
  have := hex_any w _ [10] hs (by decide)
  rw [firstI] at this
  exact this
theorem f_same (w : World) (v1 v2 : Value) (h1 : SeesP w v1 firstL) (h2 : SeesP w v2 firstL) : Calls Tryz.prog 8 #[v1, v2] w fun e w' => e = .returned (.bool true) ∧ Chg (fun _ => False) w w' := by
  have := samePairs_any w v1 v2 firstL firstL h1 h2 (by decide)
  rw [decide_eq_true rfl] at this
  exact this

set_option maxRecDepth 100000 in
set_option maxHeartbeats 8000000 in
theorem first_any (w : World) (hE : Env w) : Calls Tryz.prog 4 #[] w fun e w' => e = .returned (.bool true) ∧ Chg (fun _ => False) w w' := by
  have HE := Lib.hid hE
  clear hE
  have kc1 : (convert 49 49 (.slice (some ⟨w.heap.size, 0, none⟩) 1 1)).run Tryz.prog (w.alloc (.cells #[.int .u8 97] 5)) = .ok (.slice (some ⟨w.heap.size, 0, none⟩) 1 1) (w.alloc (.cells #[.int .u8 97] 5 (1, 2))) := Lib.run_convert_bytes_const w 49 5 #[.int .u8 97] 1 1 Tryz.underlying49 Tryz.underlying5
  have kc2 : (convert 49 49 (.slice (some ⟨w.heap.size + 1 + 1, 0, none⟩) 1 1)).run Tryz.prog (((w.alloc (.cells #[.int .u8 97] 5 (1, 2))).alloc (.cells #[.int .u8 1] 5)).alloc (.cells #[.int .u8 98] 5)) = .ok (.slice (some ⟨w.heap.size + 1 + 1, 0, none⟩) 1 1) (((w.alloc (.cells #[.int .u8 97] 5 (1, 2))).alloc (.cells #[.int .u8 1] 5)).alloc (.cells #[.int .u8 98] 5 (1, 2))) := Go.Joins.run_convert_bytes_const_at ((w.alloc (.cells #[.int .u8 97] 5 (1, 2))).alloc (.cells #[.int .u8 1] 5)) 49 5 #[.int .u8 98] 1 1 (w.heap.size + 1 + 1) ((Array.size_push _).trans (congrArg (· + 1) (Array.size_push _))).symm Tryz.underlying49 Tryz.underlying5
  have CA : Hid (Chg (fun _ => False) w ((((w.alloc (.cells #[.int .u8 97] 5 (1, 2))).alloc (.cells #[.int .u8 1] 5)).alloc (.cells #[.int .u8 98] 5 (1, 2))).alloc (.cells #[.slice (some ⟨w.heap.size, 0, none⟩) 1 1, .slice (some ⟨w.heap.size + 1, 0, none⟩) 1 1, .slice (some ⟨w.heap.size + 2, 0, none⟩) 1 1, .slice none 0 0] 54))) := Lib.hid ((((((Chg.refl _ w).alloc _).alloc _).alloc _).alloc _))
  go_enter Tryz.func4, Tryz.ntmps4
  go_wp2_with (go_at_call 15; fail)
  clear kc1 kc2
  refine (f_text _ (HE.out.chg0 CA.out) _ (first_sees w)).mono ?_
  rintro e w1 ⟨rfl, hc1⟩
  have C1 := Lib.hid (CA.out.trans hc1 (fun _ f => f.elim))
  have HS1 := Lib.hid ((first_sees w).chg0 hc1)
  clear hc1 CA
  go_wp2_with (go_at_call 7; refine (f_parse _ (HE.out.chg0 C1.out)).mono ?_)
  rintro e w2 ⟨a2, c2, rfl, hs2, hc2⟩
  have C2 := Lib.hid (C1.out.trans hc2 (fun _ f => f.elim))
  have HS2 := Lib.hid hs2
  have HS3 := Lib.hid (HS1.out.chg0 hc2)
  clear hs2 hc2 HS1
  go_wp2_with (go_at_call 8; refine (f_same _ _ _ HS2.out HS3.out).mono ?_)
  rintro e w3 ⟨rfl, hc3⟩
  have C3 := Lib.hid (C2.out.trans hc3 (fun _ f => f.elim))
  clear hc3
  go_wp2_with (go_at_call 7; refine (f_parse2 _ (HE.out.chg0 C3.out)).mono ?_)
  rintro e w4 ⟨a4, c4, rfl, hc4⟩
  have C4 := Lib.hid (C3.out.trans hc4 (fun _ f => f.elim))
  clear hc4
  go_wp2_with fail
  refine (f_unhex _).mono ?_
  rintro e w5 ⟨rfl, hc5⟩
  have C5 := Lib.hid (C4.out.trans hc5 (fun _ f => f.elim))
  clear hc5
  go_wp2_with fail
  refine (f_unhex2 _).mono ?_
  rintro e w6 ⟨g6, c6, rfl, hcell6, hc6⟩
  have C6 := Lib.hid (C5.out.trans hc6 (fun _ f => f.elim))
  clear hc6
  go_wp2_with (go_at_call 9; refine (num_any _ _).mono ?_; rintro e w' ⟨rfl, rfl⟩)
  clear hcell6
  refine (f_hex _).mono ?_
  rintro e w7 ⟨rfl, hc7⟩
  have C7 := Lib.hid (C6.out.trans hc7 (fun _ f => f.elim))
  clear hc7
  go_wp2_with fail
  refine (f_hex2 _ _ (by rw [Lib.cell_of_heap (heap_alloc_new w7 _)]; rfl)).mono ?_
  rintro e w8 ⟨rfl, hc8⟩
  have C8 := Lib.hid ((C7.out.alloc (.cells #[.int .u8 10] 5)).trans hc8 (fun _ f => f.elim))
  clear hc8
  go_wp2_with fail
  go_ret
  exact ⟨rfl, C8.out⟩
end Go.Proofs.YteejkkidnohcfaaGreatDoor
