/- The statement DiskArms: for every k and every list of bools the law DiskArms returns true, on every run: the power fails at the k-th Write or Sync, the Write at which it fails pends, nothing is done from then on. No condition. -/
import Derived.Test.YtckioocahmbhkaaRows
import Derived.Test.YtckioocahmbhkaaArms
import Derived.WalkKit
import Derived.ProofKit
import Derived.OpenShut
import Derived.Outline
namespace Go.Proofs.Ytckioocahmbhkaa.diskArms
open Go Go.RowKit Go.Maps Go.MuLone
open Go.ChangeShapes Go.WideShapes Go.ChangeAt
set_option linter.unusedVariables false

theorem own : ownKnob Try.prog.godebug = none := by kernel_rfl
theorem laidOut : laidOutB Try.prog = true := by kernel_rfl

theorem walk_no (a0 : Int) (h : a0 < 1 ∨ 40 < a0) (v : Value) (w : World) :
    Calls Try.prog 4 #[.int .i64 a0, v] w fun e w' => e = .returned (.bool true) ∧ Below w.heap.size w w' := by
  by_cases h1 : a0 < 1
  · clear h
    go_enter Try.func4, Try.ntmps4
    go_wp2_with (first
      | (go_at_call 8; refine (first_any _).mono ?_; rintro e w1 ⟨rfl, b1⟩)
      | (go_at_call 9; refine (new_st b1 50 (by omega) (by omega)).mono ?_; rintro e w2 ⟨b, own, rfl, s2, _, _⟩; have S2 := Lib.hid s2; clear s2))
    go_ret
    exact ⟨rfl, S2.out.below⟩
  · have h2 : 40 < a0 := by omega
    clear h
    go_enter Try.func4, Try.ntmps4
    go_wp2_with (first
      | (go_at_call 8; refine (first_any _).mono ?_; rintro e w1 ⟨rfl, b1⟩)
      | (go_at_call 9; refine (new_st b1 50 (by omega) (by omega)).mono ?_; rintro e w2 ⟨b, own, rfl, s2, _, _⟩; have S2 := Lib.hid s2; clear s2))
    go_ret
    exact ⟨rfl, S2.out.below⟩

set_option maxRecDepth 100000 in
set_option maxHeartbeats 4000000 in
theorem walk_yes (kk : Nat) (h1 : 1 ≤ kk) (h2 : kk ≤ 40) (v : Value) (bs : List Bool) (w : World) (hv : BoolsA w v bs) :
    Calls Try.prog 4 #[.int .i64 kk, v] w fun e w' => e = .returned (.bool true) ∧ Below w.heap.size w w' := by
  obtain ⟨a, cap, rfl, hbl, hvg⟩ := hv
  obtain ⟨D1, hD1, hA1⟩ := A_start kk h1
  have HD1 := Lib.hid hD1
  have HA1 := Lib.hid hA1
  have HVG := Lib.hid hvg
  clear hD1 hA1 hvg
  have k1 : decide ((kk : Int) < 1) = false := by rw [decide_eq_false_iff_not]; omega
  have k2 : decide ((40 : Int) < (kk : Int)) = false := by rw [decide_eq_false_iff_not]; omega
  go_enter Try.func4, Try.ntmps4
  go_wp2_with (first
    | (go_at_call 8; refine (first_any _).mono ?_; rintro e w1 ⟨rfl, b1⟩)
    | (go_at_call 9; refine (new_st b1 50 (by omega) (by omega)).mono ?_; rintro e w2 ⟨b, own, rfl, s2, _, _⟩; have S2 := Lib.hid s2; clear s2)
    | (go_at_call 18; refine (arm_st S2.out kk (by omega) HD1.out).mono ?_; rintro e w3 ⟨rfl, s3, _⟩; have S3 := Lib.hid s3; clear s3)
    | (go_at_call 12; refine (num_any _ _).mono ?_; rintro e w' ⟨rfl, rfl⟩))
  go_loopw [8, 9] (fun pv iv wr => ∃ (j pend : Nat) (own : Own) (D : DS), j ≤ 40 ∧ iv = .int .i64 (j + 1 : Nat) ∧ pv = .int .i64 pend ∧ St w wr own b D ∧ AInv D j kk pend ∧ pend ≤ j)
    (fun _ iv _ => 42 - (intOf iv).toNat)
  case atStart => exact ⟨0, 0, own, D1, by omega, rfl, rfl, S3.out, HA1.out, Nat.le_refl _⟩
  case round =>
    obtain ⟨j, pend, own1, D, hj, rfl, rfl, hS, hA, hpj⟩ := hrel
    have S1 := Lib.hid hS
    have A1 := Lib.hid hA
    clear hS hA
    by_cases hc : j < bs.length ∧ j < 40
    · obtain ⟨hlt, hl40⟩ := hc
      obtain ⟨g, o, rfl, hcells⟩ := HVG.out (by omega)
      obtain ⟨x, hx⟩ : ∃ x, bs[j]? = some x := ⟨_, List.getElem?_eq_getElem hlt⟩
      have cb0 := hcells j x hx
      have cb : wr.cell? ⟨g, o + j, none⟩ = some (.bool x) := (S1.out.below.cell (p := ⟨g, o + j, none⟩) (World.block_lt_of_cell? _ _ cb0)).trans cb0
      clear hcells hx cb0
      clear k1 k2
      cases x with
      | true =>
        go_wp2_with fail
        refine (full_lit _ (UInt8.ofNat (j + 1)) _ (by rw [ofNat_small _ (by omega)]; omega)).mono ?_
        rintro e w4 ⟨rfl, rA, hc4, hlt4⟩
        have fA : ¬ own1.blocks wr.heap.size := S1.out.free (Nat.le_refl _)
        have S4 := Lib.hid (S1.out.other hc4 (fun _ f => f.elim))
        have RA := Lib.hid rA
        obtain ⟨c, D', pend', dn, pw, hD', hA', hdn, hpw, hpl, hst⟩ := A_write' A1.out (by omega) (by omega) (rep 4096 (UInt8.ofNat (j + 1))) (rep_length _ _)
        have HD' := Lib.hid hD'
        have HA' := Lib.hid hA'
        have HDN := Lib.hid hdn
        have HPW := Lib.hid hpw
        have HPL := Lib.hid hpl
        clear hc4 rA hD' hA' hdn hpw hpl cb
        go_wp2_with fail
        refine (write_page S4.out A1.out.ok 0 (rep_length _ _) RA.out fA (by rw [A1.out.cap]; omega) (by have := A1.out.wr; omega) (by have := A1.out.pl; omega) HD'.out).mono ?_
        rintro e w5 ⟨rfl, own5, s5, _⟩
        have S5 := Lib.hid s5
        clear s5
        rcases hst with ⟨hl, rfl, rfl, rfl, rfl⟩ | ⟨⟨hl, hl2⟩, rfl, rfl, rfl, rfl⟩ | ⟨hl, rfl, rfl, rfl, rfl⟩
        all_goals
          go_wp2_with (first
            | (go_at_call 12; refine (num_any _ _).mono ?_; rintro e w' ⟨rfl, rfl⟩)
            | (go_at_call 14; refine (pendlen_st S5.out HA'.out.ok HPL.out (by omega)).mono ?_; rintro e w6 ⟨qa, qc, rfl, s6, _⟩; have S6 := Lib.hid s6; clear s6)
            | (go_at_call 19; refine (power_st S6.out HPW.out).mono ?_; rintro e w7 ⟨rfl, s7, _⟩; have S7 := Lib.hid s7; clear s7)
            | (go_at_call 20; refine (done_st S7.out HDN.out).mono ?_; rintro e w8 ⟨rfl, s8, _⟩; have S8 := Lib.hid s8; clear s8))
          go_roundw
          case rel => exact ⟨j + 1, _, own5, D', by omega, by go_num, by first | rfl | go_num, S8.out, HA'.out, by omega⟩
          case measure => simp [intOf]; omega
      | false =>
        go_wp2_with fail
        obtain ⟨c, D', pend', dn, pw, hD', hA', hdn, hpw, hpl, hst⟩ := A_sync' A1.out (by omega) (by omega)
        have HD' := Lib.hid hD'
        have HA' := Lib.hid hA'
        have HDN := Lib.hid hdn
        have HPW := Lib.hid hpw
        have HPL := Lib.hid hpl
        clear hD' hA' hdn hpw hpl cb
        refine (sync_st S1.out A1.out.ok HD'.out).mono ?_
        rintro e w5 ⟨rfl, own5, s5, _⟩
        have S5 := Lib.hid s5
        clear s5
        rcases hst with ⟨hl, rfl, rfl, rfl, rfl⟩ | ⟨⟨hl, hl2⟩, rfl, rfl, rfl, rfl⟩ | ⟨hl, rfl, rfl, rfl, rfl⟩
        all_goals
          go_wp2_with (first
            | (go_at_call 12; refine (num_any _ _).mono ?_; rintro e w' ⟨rfl, rfl⟩)
            | (go_at_call 14; refine (pendlen_st S5.out HA'.out.ok HPL.out (by omega)).mono ?_; rintro e w6 ⟨qa, qc, rfl, s6, _⟩; have S6 := Lib.hid s6; clear s6)
            | (go_at_call 19; refine (power_st S6.out HPW.out).mono ?_; rintro e w7 ⟨rfl, s7, _⟩; have S7 := Lib.hid s7; clear s7)
            | (go_at_call 20; refine (done_st S7.out HDN.out).mono ?_; rintro e w8 ⟨rfl, s8, _⟩; have S8 := Lib.hid s8; clear s8))
          go_roundw
          case rel => exact ⟨j + 1, _, own5, D', by omega, by go_num, by first | rfl | go_num, S8.out, HA'.out, by omega⟩
          case measure => simp [intOf]; omega
    · have hj2 : ¬ (j < bs.length ∧ j < 40) := hc
      obtain ⟨ok9, D9, hD9, ok9', off9, q9, hq9⟩ := A_end A1.out (by omega) (rep 4096 1) (rep_length _ _)
      have HD9 := Lib.hid hD9
      have Hok9 := Lib.hid ok9
      have Hok9' := Lib.hid ok9'
      have Hoff9 : Hid ((!D9.off) = true) := Lib.hid (by rw [off9]; rfl)
      have Hq9 : Hid (D9.pending.length = 1) := Lib.hid (by rw [hq9]; rfl)
      have hwr9 : Hid ((D.crash []).wr < 1000000) := Lib.hid (by have := A1.out.wr; show D.wr < _; omega)
      have hcap9 : Hid ((D.crash []).cap ≤ 524287) := Lib.hid (by have := A1.out.cap; show D.cap ≤ _; omega)
      have hpn9 : Hid ((D.crash []).pending.length < 1000000) := Lib.hid (by show 0 < 1000000; omega)
      clear hD9 ok9 ok9' off9 hq9 hc k1 k2
      by_cases hjb : j < bs.length
      · have hj3 : 40 ≤ j := by omega
        clear hj2
        go_wp2_with fail
        refine (crash_st S1.out A1.out.ok (.slice none 0 0) [] ⟨none, 0, rfl, Nat.zero_le _, fun h => by simp at h⟩ rfl).mono ?_
        rintro e w5 ⟨rfl, own5, s5, _⟩
        have S5 := Lib.hid s5
        clear s5
        go_wp2_with fail
        refine (full_lit _ 1 _ rfl).mono ?_
        rintro e w6 ⟨rfl, rA, hc6, hlt6⟩
        have fA : ¬ own5.blocks w5.heap.size := S5.out.free (Nat.le_refl _)
        have S6 := Lib.hid (S5.out.other hc6 (fun _ f => f.elim))
        have RA := Lib.hid rA
        clear hc6 rA
        go_wp2_with fail
        refine (write_page S6.out Hok9.out 0 (rep_length _ _) RA.out fA hcap9.out hwr9.out hpn9.out HD9.out).mono ?_
        rintro e w7 ⟨rfl, own7, s7, _⟩
        have S7 := Lib.hid s7
        clear s7
        go_wp2_with (first
          | (go_at_call 12; refine (num_any _ _).mono ?_; rintro e w' ⟨rfl, rfl⟩)
          | (go_at_call 19; refine (power_st S7.out Hoff9.out).mono ?_; rintro e w8 ⟨rfl, s8, _⟩; have S8 := Lib.hid s8; clear s8)
          | (go_at_call 14; refine (pendlen_st S8.out Hok9'.out Hq9.out (by omega)).mono ?_; rintro e w9 ⟨qa, qc, rfl, s9, _⟩; have S9 := Lib.hid s9; clear s9))
        go_ret
        exact ⟨rfl, S9.out.below⟩
      · clear hj2
        go_wp2_with fail
        refine (crash_st S1.out A1.out.ok (.slice none 0 0) [] ⟨none, 0, rfl, Nat.zero_le _, fun h => by simp at h⟩ rfl).mono ?_
        rintro e w5 ⟨rfl, own5, s5, _⟩
        have S5 := Lib.hid s5
        clear s5
        go_wp2_with fail
        refine (full_lit _ 1 _ rfl).mono ?_
        rintro e w6 ⟨rfl, rA, hc6, hlt6⟩
        have fA : ¬ own5.blocks w5.heap.size := S5.out.free (Nat.le_refl _)
        have S6 := Lib.hid (S5.out.other hc6 (fun _ f => f.elim))
        have RA := Lib.hid rA
        clear hc6 rA
        go_wp2_with fail
        refine (write_page S6.out Hok9.out 0 (rep_length _ _) RA.out fA hcap9.out hwr9.out hpn9.out HD9.out).mono ?_
        rintro e w7 ⟨rfl, own7, s7, _⟩
        have S7 := Lib.hid s7
        clear s7
        go_wp2_with (first
          | (go_at_call 12; refine (num_any _ _).mono ?_; rintro e w' ⟨rfl, rfl⟩)
          | (go_at_call 19; refine (power_st S7.out Hoff9.out).mono ?_; rintro e w8 ⟨rfl, s8, _⟩; have S8 := Lib.hid s8; clear s8)
          | (go_at_call 14; refine (pendlen_st S8.out Hok9'.out Hq9.out (by omega)).mono ?_; rintro e w9 ⟨qa, qc, rfl, s9, _⟩; have S9 := Lib.hid s9; clear s9))
        go_ret
        exact ⟨rfl, S9.out.below⟩

theorem walk (a0 : Int) (w0 : (Lit.int .i64 a0).wf = true) (v : Value) (bs : List Bool) (w : World) (hv : BoolsA w v bs) :
    Calls Try.prog 4 #[.int .i64 a0, v] w fun e w' => e = .returned (.bool true) ∧ Below w.heap.size w w' := by
  by_cases h : a0 < 1 ∨ 40 < a0
  · exact walk_no a0 h v w
  · obtain ⟨k, rfl⟩ : ∃ k : Nat, a0 = k := ⟨a0.toNat, by omega⟩
    exact walk_yes k (by omega) (by omega) v bs w hv

set_option maxRecDepth 100000 in
theorem lifted (os : Os) (started : os.Started) (H : Type) (enc : TypeId × Value → H) :
    ReturnsInHanded {} Try.checked os 4 .any (Rows.diskArmsSpec.pre6 enc Try.prog Try.f4 Rows.diskArmsRow.domain false) (Rows.diskArmsSpec.post enc Try.prog Try.f4 false true false false) := by
  refine returnsInHanded_of_change (C := Try.checked) own started (by kernel_rfl) Try.func4
    (ChangeSpec.witness6 (enc := enc) (C := Try.checked) false ⟨#[], #[.int .i64 0, .slice none 0 0], []⟩ 8 (by kernel_rfl) (by kernel_rfl) (by kernel_rfl) (by kernel_rfl)) ?_
  intro W base args ds gs before hval0 hW hcnd _
  have hval : ∀ (j : Nat) t v, Try.f4.params[j]? = some t → args[j]? = some v → Value.okWide Try.prog W .any base t v := hval0
  have hW' := hW
  obtain ⟨p, q, hA0, hV, rfl, hfz, hnd⟩ := hW
  have hA : DataW.TrodAll enc Try.prog W 0 (fun _ => true) true Try.f4.params.toList args.toList ds p := hA0
  rw [Try.params4] at hA hval
  obtain ⟨v0, vs0, d0, ds0, p0, q0, hargs, rfl, rfl, h0, r0⟩ := trodAll_cons hA
  obtain ⟨v1, vs1, d1, ds1, p1, q1, rfl, rfl, rfl, h1, r1⟩ := trodAll_cons r0
  obtain ⟨rfl, rfl, rfl⟩ := trodAll_nil r1
  obtain rfl : args = #[v0, v1] := by cases args; simp_all
  obtain ⟨rfl, rfl⟩ := trodVars_none hV
  have k1 := h1
  have lt1 : ∀ x ∈ p1, x.block < W.heap.size := by obtain ⟨m, hm⟩ := k1; exact DataW.trod_lt m _ _ _ hm
  obtain ⟨bs, hbs⟩ := open_bools (hval 1 23 v1 rfl rfl) h1
  obtain ⟨a0, rfl, rfl, rfl, w0⟩ := open_int Try.underlying3 (hval 0 3 v0 rfl rfl) h0
  clear hA0 hval0
  refine (walk a0 w0 v1 bs W hbs).mono fun e W' ⟨he, bel⟩ => ?_
  subst he
  exact ⟨_, rfl, _, _, _, [], _, [], hW', trodAll_mk1 (shut_bool Try.underlying4 _), (trodAll_cons_mk (shut_int Try.underlying3 w0) (trodAll_cons_mk (Below.trod laidOut (by kernel_rfl) (of_decide_eq_true (by kernel_rfl)) k1 bel lt1) trodAll_mk0)), rfl, bel.frame _, fun h => by cases h⟩

theorem over : Rows.diskArmsRow.holds Try.pinned (OpenSpec.ofChange Rows.diskArmsSpec) :=
  OpenClaim.holds_of_wide 4 Try.f4 rfl rfl rfl rfl rfl rfl rfl ⟨rfl, rfl, rfl, rfl, rfl⟩ rfl rfl rfl rfl rfl (by kernel_rfl) Try.func4 (by kernel_rfl)
    (of_decide_eq_true (by kernel_rfl)) (by unfold Func.isWrapper; first | (rw [if_pos (by decide +kernel)]; kernel_rfl) | (rw [if_neg (by decide +kernel)]; exact ⟨rfl, rfl⟩))
    (fun os started H enc _ => lifted os started H enc)

theorem proved : Rows.DiskArmsSaid :=
  over
#print axioms proved
end Go.Proofs.Ytckioocahmbhkaa.diskArms
