/- The statement DiskNew: for every cap the law DiskNew returns true, on every run: which disks New makes, and what a new one tells. No condition. -/
import Derived.Test.YtckioocahmbhkaaRows
import Derived.Test.YtckioocahmbhkaaW18
import Derived.WalkKit
import Derived.ProofKit
import Derived.OpenShut
namespace Go.Proofs.Ytckioocahmbhkaa.diskNew
open Go Go.RowKit Go.Maps Go.MuLone
open Go.ChangeShapes Go.WideShapes Go.ChangeAt
set_option linter.unusedVariables false

theorem own : ownKnob Try.prog.godebug = none := by kernel_rfl

theorem n_read (cap : Int) : (DS.new cap).read 0 = (121, [], DS.new cap) := by simp [DS.read, DS.new, DS.pages]
theorem n_write (cap : Int) (p : List UInt8) : (DS.new cap).write 1 p = (121, DS.new cap) := by simp [DS.write, DS.new, DS.pages]
theorem n_ok (cap : Int) : (DS.new cap).ok := by constructor <;> simp [DS.new]

theorem walk_no (a0 : Int) (h : a0 < 2 ∨ 524287 < a0) (w : World) :
    Calls Try.prog 6 #[.int .i64 a0] w fun e w' => e = .returned (.bool true) ∧ Below w.heap.size w w' := by
  have hn := fun w => new_no w a0 h
  have Hn := Lib.hid hn
  clear hn
  by_cases h1 : a0 < 2
  · clear h
    go_enter Try.func6, Try.ntmps6
    go_wp2_with (first
      | (go_at_call 8; refine (first_any _).mono ?_; rintro e w1 ⟨rfl, b1⟩)
      | (go_at_call 9; refine (Hn.out _).mono ?_; rintro e w2 ⟨rfl, rfl⟩))
    go_ret
    exact ⟨rfl, b1⟩
  · have h2 : 524287 < a0 := by omega
    clear h
    go_enter Try.func6, Try.ntmps6
    go_wp2_with (first
      | (go_at_call 8; refine (first_any _).mono ?_; rintro e w1 ⟨rfl, b1⟩)
      | (go_at_call 9; refine (Hn.out _).mono ?_; rintro e w2 ⟨rfl, rfl⟩))
    go_ret
    exact ⟨rfl, b1⟩

theorem cap_st {w0 w : World} {own : Own} {b : Nat} {D : DS} (h : St w0 w own b D) {c : Int} (hc : D.cap = c) : Calls Try.prog 25 #[.pointer (some ⟨b, 0, none⟩)] w fun e w' => e = .returned (.int .i64 c) ∧ w = w' := by
  have := cap_any w own 0 b D h.disk
  rw [hc] at this
  exact this
theorem power_st {w0 w : World} {own : Own} {b : Nat} {D : DS} (h : St w0 w own b D) {c : Bool} (hc : (!D.off) = c) : Calls Try.prog 19 #[.pointer (some ⟨b, 0, none⟩)] w fun e w' => e = .returned (.bool c) ∧ St w0 w' own b D ∧ Step w own w' own := by
  have := power_any w own b D h.disk
  rw [hc] at this
  refine this.mono ?_
  rintro e w' ⟨rfl, h1, h2⟩
  exact ⟨rfl, h.stepb h1 h2, Step.of_b h.str h2⟩
theorem done_st {w0 w : World} {own : Own} {b : Nat} {D : DS} (h : St w0 w own b D) {c : Int} (hc : D.done = c) : Calls Try.prog 20 #[.pointer (some ⟨b, 0, none⟩)] w fun e w' => e = .returned (.int .i64 c) ∧ St w0 w' own b D ∧ Step w own w' own := by
  have := done_any w own b D h.disk
  rw [hc] at this
  refine this.mono ?_
  rintro e w' ⟨rfl, h1, h2⟩
  exact ⟨rfl, h.stepb h1 h2, Step.of_b h.str h2⟩
theorem reads_st {w0 w : World} {own : Own} {b : Nat} {D : DS} (h : St w0 w own b D) {c : Int} (hc : D.reads = c) : Calls Try.prog 26 #[.pointer (some ⟨b, 0, none⟩)] w fun e w' => e = .returned (.int .i64 c) ∧ St w0 w' own b D ∧ Step w own w' own := by
  have := reads_any w own b D h.disk
  rw [hc] at this
  refine this.mono ?_
  rintro e w' ⟨rfl, h1, h2⟩
  exact ⟨rfl, h.stepb h1 h2, Step.of_b h.str h2⟩
theorem durable_st {w0 w : World} {own : Own} {b : Nat} {D : DS} (h : St w0 w own b D) (hok : D.ok) {bs : List UInt8} (hb : D.lasting.flatten = bs) :
    Calls Try.prog 15 #[.pointer (some ⟨b, 0, none⟩)] w fun e w' => ∃ a cap, e = .returned (.slice a bs.length cap) ∧ Handed w w' (.slice a bs.length cap) bs ∧ St w0 w' own b D ∧ Step w own w' own := by
  have := durable_any w own b D h.disk hok
  rw [hb] at this
  refine this.mono ?_
  rintro e w' ⟨a, cap, rfl, h0, h1, h2⟩
  exact ⟨a, cap, rfl, h0, h.stepb h1 h2, Step.of_b h.str h2⟩
theorem pending_st {w0 w : World} {own : Own} {b : Nat} {D : DS} (h : St w0 w own b D) (hok : D.ok) (hn : D.pending.length < 1000000) {qs : List (Nat × List UInt8)} (hb : D.pending = qs) :
    Calls Try.prog 14 #[.pointer (some ⟨b, 0, none⟩)] w fun e w' => ∃ a cap rho, e = .returned (.slice a qs.length cap) ∧ Writes w' w.heap.size rho (.slice a qs.length cap) qs ∧ St w0 w' own b D ∧ Step w own w' own := by
  have := pending_any w own b D h.disk hok hn
  rw [hb] at this
  refine this.mono ?_
  rintro e w' ⟨a, cap, rho, rfl, h0, h1, h2⟩
  exact ⟨a, cap, rho, rfl, h0, h.stepb h1 h2, Step.of_b h.str h2⟩

set_option maxHeartbeats 1600000 in
theorem walk_yes (a0 : Int) (h1 : 2 ≤ a0) (h2 : a0 ≤ 524287) (w : World) :
    Calls Try.prog 6 #[.int .i64 a0] w fun e w' => e = .returned (.bool true) ∧ Below w.heap.size w w' := by
  have HR := Lib.hid (n_read a0)
  have HW := Lib.hid (n_write a0)
  have HO := Lib.hid (n_ok a0)
  have HC : Hid ((DS.new a0).cap ≤ 524287) := Lib.hid h2
  have HCe : Hid ((DS.new a0).cap = a0) := Lib.hid rfl
  have HP : Hid ((DS.new a0).pages = 0) := Lib.hid rfl
  have Hoff : Hid ((!(DS.new a0).off) = true) := Lib.hid rfl
  have Hdn : Hid ((DS.new a0).done = 0) := Lib.hid rfl
  have Hrd : Hid ((DS.new a0).reads = 0) := Lib.hid rfl
  have Hdu : Hid ((DS.new a0).lasting.flatten = []) := Lib.hid rfl
  have Hpe : Hid ((DS.new a0).pending = []) := Lib.hid rfl
  have Hpl : Hid ((DS.new a0).pending.length < 1000000) := Lib.hid (by show 0 < 1000000; omega)
  have Hwr : Hid ((DS.new a0).wr < 1000000) := Lib.hid (by show 0 < 1000000; omega)
  have Hpa : Hid ((DS.new a0).pages ≤ 1000000) := Lib.hid (by show 0 ≤ 1000000; omega)
  go_enter Try.func6, Try.ntmps6
  go_wp2_with (go_at_call 8; refine (first_any _).mono ?_; rintro e w1 ⟨rfl, b1⟩)
  refine (new_st b1 a0 h1 h2).mono ?_
  rintro e w2 ⟨b, own, rfl, s2, _, _⟩
  have S2 := Lib.hid s2
  clear s2
  go_wp2_with fail
  refine (read_st S2.out HO.out Hpa.out 0 HR.out).mono ?_
  rintro e w3 ⟨ra, rc, rfl, _, s3, _⟩
  go_wp2_with fail
  refine (full_lit _ 1 _ rfl).mono ?_
  rintro e w4 ⟨rfl, rA, hc4, hlt4⟩
  have fA : ¬ own.blocks w3.heap.size := s3.free (Nat.le_refl _)
  have S4 := Lib.hid (s3.other hc4 (fun _ f => f.elim))
  have RA := Lib.hid rA
  clear s3 hc4 rA
  go_wp2_with fail
  refine (write_page S4.out HO.out 1 (rep_length 4096 1) RA.out fA HC.out Hwr.out Hpl.out (HW.out _)).mono ?_
  rintro e w5 ⟨rfl, own5, s5, _⟩
  have S5 := Lib.hid s5
  clear s5
  go_wp2_with (first
    | (go_at_call 12; refine (num_any _ _).mono ?_; rintro e w' ⟨rfl, rfl⟩)
    | (go_at_call 25; refine (cap_st S5.out HCe.out).mono ?_; rintro e w' ⟨rfl, rfl⟩)
    | (go_at_call 16; refine (pages_st S5.out HO.out HP.out).mono ?_; rintro e w6 ⟨rfl, s6, _⟩; have S6 := Lib.hid s6; clear s6)
    | (go_at_call 19; refine (power_st S6.out Hoff.out).mono ?_; rintro e w7 ⟨rfl, s7, _⟩; have S7 := Lib.hid s7; clear s7)
    | (go_at_call 20; refine (done_st S7.out Hdn.out).mono ?_; rintro e w8 ⟨rfl, s8, _⟩; have S8 := Lib.hid s8; clear s8)
    | (go_at_call 26; refine (reads_st S8.out Hrd.out).mono ?_; rintro e w9 ⟨rfl, s9, _⟩; have S9 := Lib.hid s9; clear s9)
    | (go_at_call 15; refine (durable_st S9.out HO.out Hdu.out).mono ?_; rintro e w10 ⟨da, dc, rfl, _, s10, _⟩; have S10 := Lib.hid s10; clear s10)
    | (go_at_call 14; refine (pending_st S10.out HO.out Hpl.out Hpe.out).mono ?_; rintro e w11 ⟨pa, pc, rho, rfl, _, s11, _⟩; have S11 := Lib.hid s11; clear s11))
  go_ret
  exact ⟨rfl, S11.out.below⟩

theorem walk (a0 : Int) (w0 : (Lit.int .i64 a0).wf = true) (w : World) :
    Calls Try.prog 6 #[.int .i64 a0] w fun e w' => e = .returned (.bool true) ∧ Below w.heap.size w w' := by
  by_cases h : a0 < 2 ∨ 524287 < a0
  · exact walk_no a0 h w
  · exact walk_yes a0 (by omega) (by omega) w

/-! ### THE ROW's STEP: WRITTEN OUT: LEAVE IT -/
set_option maxRecDepth 100000 in
theorem lifted (os : Os) (started : os.Started) (H : Type) (enc : TypeId × Value → H) :
    ReturnsInHanded {} Try.checked os 6 .any (Rows.diskNewSpec.pre6 enc Try.prog Try.f6 Rows.diskNewRow.domain false) (Rows.diskNewSpec.post enc Try.prog Try.f6 false true false false) := by
  refine returnsInHanded_of_change (C := Try.checked) own started (by kernel_rfl) Try.func6
    (ChangeSpec.witness6 (enc := enc) (C := Try.checked) false ⟨#[], #[.int .i64 0], []⟩ 8 (by kernel_rfl) (by kernel_rfl) (by kernel_rfl) (by kernel_rfl)) ?_
  intro W base args ds gs before hval0 hW hcnd _
  have hval : ∀ (j : Nat) t v, Try.f6.params[j]? = some t → args[j]? = some v → Value.okWide Try.prog W .any base t v := hval0
  have hW' := hW
  obtain ⟨p, q, hA0, hV, rfl, hfz, hnd⟩ := hW
  have hA : DataW.TrodAll enc Try.prog W 0 (fun _ => true) true Try.f6.params.toList args.toList ds p := hA0
  rw [Try.params6] at hA hval
  obtain ⟨v0, vs0, d0, ds0, p0, q0, hargs, rfl, rfl, h0, r0⟩ := trodAll_cons hA
  obtain ⟨rfl, rfl, rfl⟩ := trodAll_nil r0
  obtain rfl : args = #[v0] := by cases args; simp_all
  obtain ⟨rfl, rfl⟩ := trodVars_none hV
  obtain ⟨a0, rfl, rfl, rfl, w0⟩ := open_int Try.underlying3 (hval 0 3 v0 rfl rfl) h0
  clear hA0 hval0
  simp only [List.append_nil] at hW'
  refine (walk a0 w0 W).mono fun e W' ⟨he, bel⟩ => ?_
  subst he
  exact ⟨_, rfl, _, _, _, [], _, [], hW', trodAll_mk1 (shut_bool Try.underlying4 _), (trodAll_cons_mk (shut_int Try.underlying3 w0) trodAll_mk0), rfl, bel.frame _, fun h => by cases h⟩

theorem over : Rows.diskNewRow.holds Try.pinned (OpenSpec.ofChange Rows.diskNewSpec) :=
  OpenClaim.holds_of_wide 6 Try.f6 rfl rfl rfl rfl rfl rfl rfl ⟨rfl, rfl, rfl, rfl, rfl⟩ rfl rfl rfl rfl rfl (by kernel_rfl) Try.func6 (by kernel_rfl)
    (of_decide_eq_true (by kernel_rfl)) (by unfold Func.isWrapper; first | (rw [if_pos (by decide +kernel)]; kernel_rfl) | (rw [if_neg (by decide +kernel)]; exact ⟨rfl, rfl⟩))
    (fun os started H enc _ => lifted os started H enc)

/-- ████ THE STATEMENT ████ -/
theorem proved : Rows.DiskNewSaid :=
  over
#print axioms proved
end Go.Proofs.Ytckioocahmbhkaa.diskNew
