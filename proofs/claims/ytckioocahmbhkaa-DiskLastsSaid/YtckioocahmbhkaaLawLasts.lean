/- The statement DiskLasts: for every cap, every list of writes and of bools the law DiskLasts returns true, on every run: Read tells the last Write; behind a Sync Durable tells what Read does. No condition. -/
import Derived.Test.YtckioocahmbhkaaRows
import Derived.Test.YtckioocahmbhkaaL3
import Derived.WalkKit
import Derived.ProofKit
import Derived.OpenShut
import Derived.Outline
import Derived.Deep.DeepCutAuto
import Derived.Deep.LoopGhost
import Derived.Deep.CutBlock
namespace Go.Proofs.Ytckioocahmbhkaa.diskLasts
open Go Go.RowKit Go.Maps Go.MuLone
open Go.ChangeShapes Go.WideShapes Go.ChangeAt
set_option linter.unusedVariables false

theorem own : ownKnob Try.prog.godebug = none := by kernel_rfl
theorem laidOut : laidOutB Try.prog = true := by kernel_rfl

set_option maxRecDepth 100000 in
set_option maxHeartbeats 4000000 in
theorem walk (a0 : Int) (vl vs : Value) (ps : List (Int × UInt8)) (bs : List Bool) (w : World) (hl : PutsA w vl ps) (hs : BoolsA w vs bs) :
    Calls Try.prog 3 #[.int .i64 a0, vl, vs] w fun e w' => e = .returned (.bool true) ∧ Below w.heap.size w w' := by
  have HL := Lib.hid hl
  have HS := Lib.hid hs
  obtain ⟨la, lcap, rfl, _⟩ := hl
  obtain ⟨sa, scap, rfl, _⟩ := hs
  go_enter Try.func3, Try.ntmps3
  go_upto_region 2 with (go_at_call 8; refine (first_any _).mono ?_; rintro e w1 ⟨rfl, b1⟩)
  go_cut [25] (fun tv wx => tv = .bool (decide (a0 < 2 ∨ 40 < a0)) ∧ Below w.heap.size w wx)
  case first =>
    by_cases h1 : a0 < 2
    · go_wp2
      go_meet
      exact ⟨by rw [decide_eq_true (Or.inl h1)], b1⟩
    · by_cases h2 : 40 < a0
      · go_wp2
        go_meet
        exact ⟨by rw [decide_eq_true (Or.inr h2)], b1⟩
      · go_wp2
        go_meet
        exact ⟨by rw [decide_eq_false (by omega)], b1⟩
  case rest =>
  obtain ⟨rfl, bc⟩ := hcut
  go_upto_if 25 with fail
  go_cut [0] (fun s0 wx => ∃ C : Int, s0 = .int .i64 C ∧ 2 ≤ C ∧ C ≤ 40 ∧ Below w.heap.size w wx)
  case first =>
    by_cases h1 : a0 < 2 ∨ 40 < a0
    · have hd := decide_eq_true h1
      go_wp2
      go_meet
      exact ⟨9, rfl, by omega, by omega, bc⟩
    · have hd := decide_eq_false h1
      go_wp2
      go_meet
      exact ⟨a0, rfl, by omega, by omega, bc⟩
  case rest =>
  obtain ⟨C, rfl, hC1, hC2, b2⟩ := hcut
  go_upto_block 0 with (go_at_call 9; refine (new_st b2 C (by omega) (by omega)).mono ?_; rintro e w2 ⟨b, own, rfl, s2, _, _⟩; have S2 := Lib.hid s2; clear s2)
  refine dl_loop w w2 b C hC1 hC2 la lcap ps HL.out sa scap bs HS.out ⟨own, _, S2.out, L_new C, Bk.nil _ _ _, Nat.le_refl _⟩ ?_
  intro u6 u9 u10 u11 u12 u13 u14 u15 u34 u35 u36 u37 u38 u39 u40 u41 u42 u43 u44 u45 u46 u47 u48 u49 u50 u51 u52 u53 u54 u55 u56 u57 u58 u59 u60 u61 u62 u63 u64 u65 u66 u67 u68 u69 u70 u71 u72 u73 u74 u75 u76 u77 u78 u79 u80 u81 u82 u83 u84 u85 u86 u87 u88 u89 u90 u91 u92 u93 u94 u95 u96 u97 u98 u99 u100 u101 u102 u103 u104 u105 u106 u107 u108 u109 u110 u111 u112 u113 u114 u115 u116 u117 u118 u119 u120 u121 u122 u123 u124 u125 u126 u127 u128 u129 u130 u131 u132 u133 u134 u135 u136 u137 u138 u139 u140 u141 u142 u143 u144 u145 u146 u147 u148 u149 u150 u151 u152 u153 u154 u155 u156 u157 u158 u159 u160 u161 u162 u163 u164 u165 u166 u167 u168 u169 u170 u171 u172 u173 u174 u175 u176 u177 u178 u179 u180 u181 u182 u183 u184 u185 u186 u187 u188 u189 u190 u191 u192 u193 w3 h3
  obtain ⟨n, book, hn, own1, D1, s3, l3, bk3, hbl⟩ := h3
  obtain ⟨ba, bcap, rfl⟩ := bk3.1
  obtain ⟨D9, hD9, hL9, hp9, hl9⟩ := L_sync l3
  have S1 := Lib.hid s3
  have L1 := Lib.hid l3
  have B1 := Lib.hid bk3
  have HD9 := Lib.hid hD9
  have L9 := Lib.hid hL9
  obtain ⟨fl, hfl⟩ : ∃ fl, D9.lasting.flatten = fl := ⟨_, rfl⟩
  have FL := Lib.hid hfl
  have hfn : fl.length = book.length * 4096 := by rw [← hfl, hl9]; exact flat_length book
  have HFG : Hid (∀ k, k < book.length * 4096 → fl[k]? = book[k / 4096]?) := Lib.hid fun k hk => by rw [← hfl, hl9]; exact bookP_flat book k hk
  have hb60 : book.length ≤ 60 := by omega
  clear hD9 hL9 hp9 hl9 hfl s3 l3 bk3 S2
  go_upto_block 4 with (first
    | (go_at_call 12; refine (num_any _ _).mono ?_; rintro e w' ⟨rfl, rfl⟩)
    | (go_at_call 13; refine (sync_st S1.out L1.out.ok HD9.out).mono ?_; rintro e w6 ⟨rfl, own6, s6, t6⟩; have S6 := Lib.hid s6; have B6 := Lib.hid (B1.out.step t6); clear s6 t6)
    | (go_at_call 15; refine (durable_st S6.out L9.out.ok FL.out).mono ?_; rintro e w8 ⟨ra, rc, rfl, rh, s8, t8⟩; rw [hfn]; have S8 := Lib.hid s8; have B8 := Lib.hid (B6.out.step t8); have RH := Lib.hid rh.1; clear s8 t8 rh))
  refine dl_ends w w8 ba book bcap ra rc fl HFG.out hb60 S8.out.below (by have h := RH.out; rw [hfn] at h; exact h) B8.out.2.1 ?_
  intro u6 u18 u209 u210 u211 u212 u213 u214 u215 u216 u217 u218 u219 u220 u221 u222 u223 u224 w9 h9
  go_wp2_with fail
  go_ret
  exact ⟨rfl, h9⟩

set_option maxRecDepth 100000 in
theorem lifted (os : Os) (started : os.Started) (H : Type) (enc : TypeId × Value → H) :
    ReturnsInHanded {} Try.checked os 3 .any (Rows.diskLastsSpec.pre6 enc Try.prog Try.f3 Rows.diskLastsRow.domain false) (Rows.diskLastsSpec.post enc Try.prog Try.f3 false true false false) := by
  refine returnsInHanded_of_change (C := Try.checked) own started (by kernel_rfl) Try.func3
    (ChangeSpec.witness6 (enc := enc) (C := Try.checked) false ⟨#[], #[.int .i64 0, .slice none 0 0, .slice none 0 0], []⟩ 8 (by kernel_rfl) (by kernel_rfl) (by kernel_rfl) (by kernel_rfl)) ?_
  intro W base args ds gs before hval0 hW hcnd _
  have hval : ∀ (j : Nat) t v, Try.f3.params[j]? = some t → args[j]? = some v → Value.okWide Try.prog W .any base t v := hval0
  have hW' := hW
  obtain ⟨p, q, hA0, hV, rfl, hfz, hnd⟩ := hW
  have hA : DataW.TrodAll enc Try.prog W 0 (fun _ => true) true Try.f3.params.toList args.toList ds p := hA0
  rw [Try.params3] at hA hval
  obtain ⟨v0, vs0, d0, ds0, p0, q0, hargs, rfl, rfl, h0, r0⟩ := trodAll_cons hA
  obtain ⟨v1, vs1, d1, ds1, p1, q1, rfl, rfl, rfl, h1, r1⟩ := trodAll_cons r0
  obtain ⟨v2, vs2, d2, ds2, p2, q2, rfl, rfl, rfl, h2, r2⟩ := trodAll_cons r1
  obtain ⟨rfl, rfl, rfl⟩ := trodAll_nil r2
  obtain rfl : args = #[v0, v1, v2] := by cases args; simp_all
  obtain ⟨rfl, rfl⟩ := trodVars_none hV
  have k1 := h1
  have lt1 : ∀ x ∈ p1, x.block < W.heap.size := by obtain ⟨m, hm⟩ := k1; exact DataW.trod_lt m _ _ _ hm
  have k2 := h2
  have lt2 : ∀ x ∈ p2, x.block < W.heap.size := by obtain ⟨m, hm⟩ := k2; exact DataW.trod_lt m _ _ _ hm
  obtain ⟨ps, hps⟩ := open_puts (hval 1 22 v1 rfl rfl) h1
  obtain ⟨bs, hbs⟩ := open_bools (hval 2 23 v2 rfl rfl) h2
  obtain ⟨a0, rfl, rfl, rfl, w0⟩ := open_int Try.underlying3 (hval 0 3 v0 rfl rfl) h0
  clear hA0 hval0
  refine (walk a0 v1 v2 ps bs W hps hbs).mono fun e W' ⟨he, bel⟩ => ?_
  subst he
  exact ⟨_, rfl, _, _, _, [], _, [], hW', trodAll_mk1 (shut_bool Try.underlying4 _), (trodAll_cons_mk (shut_int Try.underlying3 w0) (trodAll_cons_mk (Below.trod laidOut (by kernel_rfl) (of_decide_eq_true (by kernel_rfl)) k1 bel lt1) (trodAll_cons_mk (Below.trod laidOut (by kernel_rfl) (of_decide_eq_true (by kernel_rfl)) k2 bel lt2) trodAll_mk0))), rfl, bel.frame _, fun h => by cases h⟩

theorem over : Rows.diskLastsRow.holds Try.pinned (OpenSpec.ofChange Rows.diskLastsSpec) :=
  OpenClaim.holds_of_wide 3 Try.f3 rfl rfl rfl rfl rfl rfl rfl ⟨rfl, rfl, rfl, rfl, rfl⟩ rfl rfl rfl rfl rfl (by kernel_rfl) Try.func3 (by kernel_rfl)
    (of_decide_eq_true (by kernel_rfl)) (by unfold Func.isWrapper; first | (rw [if_pos (by decide +kernel)]; kernel_rfl) | (rw [if_neg (by decide +kernel)]; exact ⟨rfl, rfl⟩))
    (fun os started H enc _ => lifted os started H enc)

theorem proved : Rows.DiskLastsSaid :=
  over
#print axioms proved
end Go.Proofs.Ytckioocahmbhkaa.diskLasts
