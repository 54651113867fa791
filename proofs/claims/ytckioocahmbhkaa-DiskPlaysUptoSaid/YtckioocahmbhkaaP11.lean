/- Walks: step, Read, Write of a page, Rot, the rest. -/
import Derived.Test.YtckioocahmbhkaaP10
namespace Go.Proofs.Ytckioocahmbhkaa
open Go Go.RowKit Go.Maps Go.MuLone

theorem src_new {w0 w : World} {pb b rb gl n cap g : Nat} {own rown : Own} {D R : DS} (h : PairF w0 w pb own b rown rb gl n cap D R) {p : List UInt8} (hr : w.ownsRow 0 5 1 (.slice (some ⟨g, 0, none⟩) 4096 4096) 4096 (bVs p)) (hpl : p.length = 4096)
    (h1 : ¬ own.blocks g) (h2 : ¬ rown.blocks g) (h3 : g ≠ pb) (h4 : g ≠ gl) : Src w pb own rown gl (.slice (some ⟨g, 0, none⟩) 4096 4096) p := by
  refine ⟨?_, fun m c e => (by cases e), fun ad n c e _ => ?_⟩
  · have : SeesB w (.slice (some ⟨g, 0, none⟩) p.length 4096) p := by
      refine SeesB.of_row ?_
      rw [hpl]; exact hr
    rw [hpl] at this
    exact this
  · cases e
    refine ⟨rfl, h1, h2, h3, h4, ?_⟩
    rcases hr.2 with ⟨e, _⟩ | ⟨g', c', cur, e, _, hh, _⟩
    · cases e
    · cases e; exact heap_lt hh

set_option maxRecDepth 100000 in
set_option maxHeartbeats 8000000 in
/-- Rot. -/
theorem step_7 {w0 w : World} {pb b rb k : Nat} (h : Pr w0 w pb b rb k) (hk : k ≤ 400) (o : OpD) (dv fv : Value) (ho : OpIn w0 o dv fv) (h4 : o.kind = 7) :
    Calls Try.prog 30 #[.pointer (some ⟨pb, 0, none⟩), opV o dv fv] w fun e w' => e = .returned (.bool true) ∧ Pr w0 w' pb b rb (k + 1) := by
  obtain ⟨own, rown, gl, n, cap, D, hP, hI⟩ := h
  have hB := Box.new hP o dv fv
  have hP1 := hP.chg0 ((Chg.refl (fun _ => False) w).alloc (.cells #[.int .i64 o.kind, .int .i64 o.i, .int .i64 o.at', .int .i64 o.x, .int .u8 o.fill.toNat, dv, fv] 66))
  obtain ⟨w1, hw1⟩ : ∃ w1, w1 = w.alloc (.cells #[.int .i64 o.kind, .int .i64 o.i, .int .i64 o.at', .int .i64 o.x, .int .u8 o.fill.toNat, dv, fv] 66) := ⟨_, rfl⟩
  obtain ⟨B, hBB⟩ : ∃ B, B = w.heap.size := ⟨_, rfl⟩
  rw [← hw1] at hB hP1
  rw [← hBB] at hB
  have P1 := Lib.hid hP1
  have B1 := Lib.hid hB
  have I1 := Lib.hid hI
  have HO := Lib.hid ho
  have Ok1 := Lib.hid (hI.ok (by omega))
  have hpn := hI.pn
  have hwr := hI.wr
  have hpg := hI.pages
  obtain ⟨c0, c1, _, _⟩ := hP1.cells
  obtain ⟨b0, b1, b2, b3, b4, b5, b6⟩ := hB.cells
  have hw1' := Lib.hid hw1
  have hBB' := Lib.hid hBB
  rw [h4] at b0
  clear hP hB hP1 hI ho hw1 hBB h4
  unfold opV
  go_enter Try.func30, Try.ntmps30
  go_upto_region 1 with fail
  rw [← hw1'.out, ← hBB'.out]
  go_wp2_with fail
  have q0 : w1.drew.cell? ⟨pb, 0, none⟩ = some (.pointer (some ⟨b, 0, none⟩)) := c0
  go_still_tail 10, (by kernel_rfl)
  change wpList _ _ _ _ _ w1.drew
  go_wp2_with fail
  obtain ⟨c, D', hD⟩ : ∃ c D', D.rot o.i o.at' o.x = (c, D') := ⟨_, _, rfl⟩
  have I2 := Lib.hid (I1.out.rot o.i o.at' o.x)
  rw [hD] at I2
  have HQ := Lib.hid (prot_any w1.drew own b D P1.out.drew.st.disk Ok1.out (by omega) o.i o.at' o.x)
  rw [hD] at HQ
  refine HQ.out.mono ?_
  rintro e w2 ⟨rfl, own2, s2', t2⟩
  have s2 := P1.out.drew.st.step s2' t2
  have P2 := Lib.hid (P1.out.drew.stepD s2 t2).drew
  have d1 := (P1.out.drew.stepD s2 t2).cells.2.1
  have BB := (B1.out.chg0 (Chg.refl (fun _ => False) w1).drew).stepD t2
  obtain ⟨_, x1, x2, x3, _⟩ := BB.cells
  have B2 := Lib.hid (BB.chg0 (Chg.refl (fun _ => False) w2).drew)
  have HR := Lib.hid (fun w' (h : RefAt w' rown rb D) => rrot_any w' rown rb D h Ok1.out (by omega) o.i o.at' o.x)
  rw [hD] at HR
  clear s2 s2' t2 hD BB
  go_wp2_with fail
  go_region_held3 (fun w' => w'.cell? ⟨pb, 1, none⟩ = some (.pointer (some ⟨rb, 0, none⟩)) ∧ w'.cell? ⟨B, 1, none⟩ = some (.int .i64 o.i) ∧ w'.cell? ⟨B, 2, none⟩ = some (.int .i64 o.at') ∧ w'.cell? ⟨B, 3, none⟩ = some (.int .i64 o.x))
    (first
      | exact kx4
      | go_keep)
    (first
      | (go_simp; go_at_call 12; refine (num_any _ _).mono ?_; rintro e w' ⟨rfl, rfl⟩)
      | (go_simp; go_at_call 47; refine (HR.out _ P2.out.rs.disk).mono ?_; rintro e w4 ⟨rfl, rown4, s4, t4⟩; have P4 := P2.out.stepR (P2.out.rs.step s4 t4) t4; have BC := (B2.out.stepR t4).cells; have kx4 := And.intro P4.cells.2.1 (And.intro BC.2.1 (And.intro BC.2.2.1 BC.2.2.2.1)); have HP4 := Lib.hid P4; clear s4 t4 P4 BC))
  all_goals
    go_wp2_with fail
    go_ret
    exact ⟨rfl, _, _, _, _, _, _, HP4.out, I2.out⟩

set_option maxRecDepth 100000 in
set_option maxHeartbeats 8000000 in
/-- Write of a page. -/
theorem step_2 {w0 w : World} {pb b rb k : Nat} (h : Pr w0 w pb b rb k) (hk : k ≤ 400) (o : OpD) (dv fv : Value) (ho : OpIn w0 o dv fv) (h4 : o.kind = 2) :
    Calls Try.prog 30 #[.pointer (some ⟨pb, 0, none⟩), opV o dv fv] w fun e w' => e = .returned (.bool true) ∧ Pr w0 w' pb b rb (k + 1) := by
  obtain ⟨own, rown, gl, n, cap, D, hP, hI⟩ := h
  have hB := Box.new hP o dv fv
  have hP1 := hP.chg0 ((Chg.refl (fun _ => False) w).alloc (.cells #[.int .i64 o.kind, .int .i64 o.i, .int .i64 o.at', .int .i64 o.x, .int .u8 o.fill.toNat, dv, fv] 66))
  obtain ⟨w1, hw1⟩ : ∃ w1, w1 = w.alloc (.cells #[.int .i64 o.kind, .int .i64 o.i, .int .i64 o.at', .int .i64 o.x, .int .u8 o.fill.toNat, dv, fv] 66) := ⟨_, rfl⟩
  obtain ⟨B, hBB⟩ : ∃ B, B = w.heap.size := ⟨_, rfl⟩
  rw [← hw1] at hB hP1
  rw [← hBB] at hB
  have P1 := Lib.hid hP1
  have B1 := Lib.hid hB
  have I1 := Lib.hid hI
  have HO := Lib.hid ho
  have Ok1 := Lib.hid (hI.ok (by omega))
  have hpn := hI.pn
  have hwr := hI.wr
  have hpg := hI.pages
  obtain ⟨c0, c1, _, _⟩ := hP1.cells
  obtain ⟨b0, b1, b2, b3, b4, b5, b6⟩ := hB.cells
  have hw1' := Lib.hid hw1
  have hBB' := Lib.hid hBB
  have hcap := hI.cap
  have h4' := Lib.hid h4
  rw [h4] at b0
  clear hP hB hP1 hI ho hw1 hBB h4
  unfold opV
  go_enter Try.func30, Try.ntmps30
  go_upto_region 1 with fail
  rw [← hw1'.out, ← hBB'.out]
  have HSD := Lib.hid (src_of P1.out HO.out.data HO.out.nil)
  have HPG : Hid (∀ w', SeesB w' dv o.data → Calls Try.prog 42 #[.agg #[.int .i64 2, .int .i64 o.i, .int .i64 o.at', .int .i64 o.x, .int .u8 o.fill.toNat, dv, fv]] w' fun e w'' => ∃ g, e = .returned (.slice (some ⟨g, 0, none⟩) 4096 4096) ∧ w''.ownsRow 0 5 1 (.slice (some ⟨g, 0, none⟩) 4096 4096) 4096 (bVs o.page) ∧ Chg (fun _ => False) w' w'' ∧ w'.heap.size ≤ g) := Lib.hid (fun w' hs => by
    have := page_any w' o dv fv hs
    unfold opV at this
    rw [h4'.out] at this
    exact this)
  have HPL := Lib.hid o.page_length
  go_wp2_with fail
  have q1 : w1.drew.cell? ⟨B, 1, none⟩ = some (.int .i64 o.i) := b1
  have Hsd : Hid (SeesB w1.drew dv o.data) := Lib.hid (HSD.out.sees.none (Chg.refl (fun _ => False) w1).drew)
  go_region_law
    (first
      | (go_simp; go_at_call 42; refine (HPG.out _ Hsd.out).mono ?_; rintro e w4 ⟨g, rfl, hr, hc, hge⟩; have P4 := Lib.hid (P1.out.drew.chg0 hc); have HR4 := Lib.hid hr; have x1 := ((B1.out.chg0 (Chg.refl (fun _ => False) w1).drew).chg0 hc).cells.2.1; have HGE := Lib.hid hge; clear hr hc hge)
      | (go_simp; go_at_call 41; refine (pwrite_any P4.out Ok1.out hcap (by omega) (by omega) o.i _ o.page (src_new P4.out HR4.out HPL.out (P1.out.drew.st.free HGE.out) (P1.out.drew.rs.free HGE.out) (by have := P1.out.drew.plt; have := HGE.out; omega) (by have := P1.out.drew.llt; have := HGE.out; omega)) (by have := HPL.out; omega)).mono ?_; rintro e w5 ⟨rfl, own5, rown5, gl5, n5, cap5, hP5⟩; have P5 := Lib.hid hP5; clear hP5))
  all_goals
    go_wp2_with fail
    go_ret
    exact ⟨rfl, _, _, _, _, _, _, P5.out, I1.out.write _ _⟩

set_option maxRecDepth 100000 in
set_option maxHeartbeats 8000000 in
/-- Read. -/
theorem step_1 {w0 w : World} {pb b rb k : Nat} (h : Pr w0 w pb b rb k) (hk : k ≤ 400) (o : OpD) (dv fv : Value) (ho : OpIn w0 o dv fv) (h4 : o.kind = 1) :
    Calls Try.prog 30 #[.pointer (some ⟨pb, 0, none⟩), opV o dv fv] w fun e w' => e = .returned (.bool true) ∧ Pr w0 w' pb b rb (k + 1) := by
  obtain ⟨own, rown, gl, n, cap, D, hP, hI⟩ := h
  have hB := Box.new hP o dv fv
  have hP1 := hP.chg0 ((Chg.refl (fun _ => False) w).alloc (.cells #[.int .i64 o.kind, .int .i64 o.i, .int .i64 o.at', .int .i64 o.x, .int .u8 o.fill.toNat, dv, fv] 66))
  obtain ⟨w1, hw1⟩ : ∃ w1, w1 = w.alloc (.cells #[.int .i64 o.kind, .int .i64 o.i, .int .i64 o.at', .int .i64 o.x, .int .u8 o.fill.toNat, dv, fv] 66) := ⟨_, rfl⟩
  obtain ⟨B, hBB⟩ : ∃ B, B = w.heap.size := ⟨_, rfl⟩
  rw [← hw1] at hB hP1
  rw [← hBB] at hB
  have P1 := Lib.hid hP1
  have B1 := Lib.hid hB
  have I1 := Lib.hid hI
  have HO := Lib.hid ho
  have Ok1 := Lib.hid (hI.ok (by omega))
  have hpn := hI.pn
  have hwr := hI.wr
  have hpg := hI.pages
  obtain ⟨c0, c1, _, _⟩ := hP1.cells
  obtain ⟨b0, b1, b2, b3, b4, b5, b6⟩ := hB.cells
  have hw1' := Lib.hid hw1
  have hBB' := Lib.hid hBB
  rw [h4] at b0
  clear hP hB hP1 hI ho hw1 hBB h4
  unfold opV
  go_enter Try.func30, Try.ntmps30
  go_upto_region 1 with fail
  rw [← hw1'.out, ← hBB'.out]
  go_wp2_with fail
  have q0 : w1.drew.cell? ⟨pb, 0, none⟩ = some (.pointer (some ⟨b, 0, none⟩)) := c0
  obtain ⟨c, bs, D', hD⟩ : ∃ c bs D', D.read o.i = (c, bs, D') := ⟨_, _, _, rfl⟩
  have I2 := Lib.hid (I1.out.read o.i)
  rw [hD] at I2
  have HR := Lib.hid (fun w' (h : RefAt w' rown rb D) => rread_any w' rown rb D h Ok1.out (by omega) (by omega) o.i)
  rw [hD] at HR
  have HD := Lib.hid hD
  clear hD
  go_region_held3 (fun w' => w'.cell? ⟨pb, 0, none⟩ = some (.pointer (some ⟨b, 0, none⟩)) ∧ w'.cell? ⟨B, 1, none⟩ = some (.int .i64 o.i))
    (first
      | exact kx4
      | go_keep)
    (first
      | (go_simp; go_at_call 17; refine (read_st P1.out.drew.st Ok1.out (by omega) o.i HD.out).mono ?_; rintro e w2 ⟨ra, rc, rfl, hh, s2, t2⟩; have P2 := Lib.hid (P1.out.drew.stepD s2 t2); have BB := Lib.hid ((B1.out.chg0 (Chg.refl (fun _ => False) w1).drew).stepD t2); have HH2 := Lib.hid hh; have kx4 := And.intro P2.out.cells.1 BB.out.cells.2.1; clear s2 t2 hh))
  have d1 := P2.out.cells.2.1
  have d2 := BB.out.cells.2.1
  have P2d := Lib.hid P2.out.drew
  have BBd := Lib.hid (BB.out.chg0 (Chg.refl (fun _ => False) w2).drew)
  go_wp2_with fail
  go_region_held3 (fun w' => w'.cell? ⟨pb, 1, none⟩ = some (.pointer (some ⟨rb, 0, none⟩)) ∧ w'.cell? ⟨B, 1, none⟩ = some (.int .i64 o.i))
    (first
      | exact kx5
      | go_keep)
    (first
      | (go_simp; go_at_call 40; refine (HR.out _ P2d.out.rs.disk).mono ?_; rintro e w3 ⟨v3, rfl, hh, s3, hc3⟩; have t3 := Step.of_b P2d.out.rs.str hc3; have P3 := Lib.hid (P2d.out.stepR (P2d.out.rs.step s3 t3) t3); have HH3 := Lib.hid hh; have HC3 := Lib.hid hc3; have kx5 := And.intro P3.out.cells.2.1 (BBd.out.stepR t3).cells.2.1; clear s3 t3 hh hc3))
  obtain ⟨a3, c3, e3, _, _⟩ := ownsRow_slice HH3.out.1
  subst e3
  have HRB : Hid (∀ g, ra = some ⟨g, 0, none⟩ → ¬ own.blocks g ∧ ¬ rown.blocks g ∧ g ≠ pb ∧ g ≠ gl ∧ w0.heap.size ≤ g) := Lib.hid fun g e => by
    have hge : w1.drew.heap.size ≤ g := HH2.out.2 g (by rw [e]; rfl)
    have := P1.out.drew.plt
    have := P1.out.drew.llt
    have := P1.out.st.below.size
    have e1 : w1.drew.heap.size = w1.heap.size := rfl
    exact ⟨P1.out.drew.st.free hge, P1.out.drew.rs.free hge, by omega, by omega, by omega⟩
  have hrow : w3.ownsRow 0 5 1 (.slice ra bs.length rc) bs.length (bVs bs) := by
    have r2 : w2.drew.ownsRow 0 5 1 (.slice ra bs.length rc) bs.length (bVs bs) := HH2.out.1
    refine ownsRow_chg r2 HC3.out (fun g e e2 => ?_)
    have e2' : g = rb := e2
    obtain ⟨_, _, e3, _, _, hg⟩ := ownsRow_slice r2
    cases e3
    have : ra = some ⟨g, 0, none⟩ := by
      cases ra with
      | none => simp [Value.ownBlock] at e
      | some ad =>
        rcases r2.2 with ⟨e4, _⟩ | ⟨g', c', cur, e4, _, hh, _⟩
        · cases e4
        · cases e4; simp [Value.ownBlock] at e; rw [e]
    exact (HRB.out g this).2.1 (by rw [e2']; exact Own.blocks_of P2d.out.rs.str)
  have Hrow := Lib.hid hrow
  have hbl : bs.length ≤ maxLen := by
    obtain ⟨_, _, e, h1, h2, _⟩ := ownsRow_slice hrow
    cases e
    omega
  unfold maxLen at hbl
  have hs1 := SeesB.of_row hrow
  have hs2 := SeesB.of_row HH3.out.1
  have HS1 := Lib.hid hs1
  have HS2 := Lib.hid hs2
  clear hrow hs1 hs2 kx4 kx5 d1 d2 P2 P2d BB BBd HH2 HH3 HC3 B1 b0 b1 b2 b3 b4 b5 b6 c0 c1 q0
  go_wp2_with fail
  refine (same_yes _ _ _ bs HS1.out HS2.out).mono ?_
  rintro e w' ⟨rfl, rfl⟩
  go_wp2_with fail
  go_loopg [10] bs.length (fun gm iv wr => ∃ (j : Nat) (es : List Value), j ≤ bs.length ∧ gm = bs.length - j ∧ iv = .int .i64 j ∧ wr.ownsRow 0 5 1 (.slice ra bs.length rc) bs.length es ∧ PairF w0 wr pb own b rown rb gl n cap D' D')
  case atStart => exact ⟨0, _, by omega, rfl, rfl, Hrow.out, P3.out⟩
  case round =>
    obtain ⟨j, es, hj, hg, rfl, hr, hP⟩ := hrel
    have Hg := Lib.hid hg
    have HR2 := Lib.hid hr
    have HP2 := Lib.hid hP
    clear hg hr hP
    by_cases hlt : j < bs.length
    · obtain ⟨_, _, e, _, _, hgg⟩ := ownsRow_slice HR2.out
      cases e
      obtain ⟨g, rfl⟩ := hgg (by omega)
      have hm := Lib.hid (HRB.out g rfl)
      have hl : es.length = bs.length * 1 := HR2.out.1
      have k0 := HR2.out.cellAt j (by omega)
      obtain ⟨u0, k0'⟩ : ∃ u, wr.cell? ⟨g, j, none⟩ = some u := ⟨_, by rw [k0]; exact List.getElem?_eq_getElem (by omega)⟩
      have f0 : wr.frozen? ⟨g, j, none⟩ = false := HR2.out.frozenAt j
      clear k0 hl hgg
      go_wp2_with fail
      go_roundg (bs.length - (j + 1))
      case measure => have := Hg.out; omega
      case rel =>
        have hl : es.length = bs.length * 1 := HR2.out.1
        exact ⟨j + 1, _, by omega, rfl, by go_num, ownsRow_setCell HR2.out j (.int .u8 35) (by omega), HP2.out.other (chg1 _) (fun x e => by subst e; exact hm.out)⟩
    · go_wp2_with (go_at_call 12; refine (num_any _ _).mono ?_; rintro e w' ⟨rfl, rfl⟩)
      go_ret
      exact ⟨rfl, _, _, _, _, _, _, HP2.out, I2.out⟩

set_option maxRecDepth 100000 in
set_option maxHeartbeats 8000000 in
/-- No kind. -/
theorem step_0 {w0 w : World} {pb b rb k : Nat} (h : Pr w0 w pb b rb k) (hk : k ≤ 400) (o : OpD) (dv fv : Value) (ho : OpIn w0 o dv fv) (h4 : ∀ n : Nat, 1 ≤ n → n ≤ 9 → o.kind ≠ n) :
    Calls Try.prog 30 #[.pointer (some ⟨pb, 0, none⟩), opV o dv fv] w fun e w' => e = .returned (.bool true) ∧ Pr w0 w' pb b rb (k + 1) := by
  obtain ⟨own, rown, gl, n, cap, D, hP, hI⟩ := h
  have hB := Box.new hP o dv fv
  have hP1 := hP.chg0 ((Chg.refl (fun _ => False) w).alloc (.cells #[.int .i64 o.kind, .int .i64 o.i, .int .i64 o.at', .int .i64 o.x, .int .u8 o.fill.toNat, dv, fv] 66))
  obtain ⟨w1, hw1⟩ : ∃ w1, w1 = w.alloc (.cells #[.int .i64 o.kind, .int .i64 o.i, .int .i64 o.at', .int .i64 o.x, .int .u8 o.fill.toNat, dv, fv] 66) := ⟨_, rfl⟩
  obtain ⟨B, hBB⟩ : ∃ B, B = w.heap.size := ⟨_, rfl⟩
  rw [← hw1] at hB hP1
  rw [← hBB] at hB
  have P1 := Lib.hid hP1
  have B1 := Lib.hid hB
  have I1 := Lib.hid hI
  have HO := Lib.hid ho
  have Ok1 := Lib.hid (hI.ok (by omega))
  have hpn := hI.pn
  have hwr := hI.wr
  have hpg := hI.pages
  obtain ⟨c0, c1, _, _⟩ := hP1.cells
  obtain ⟨b0, b1, b2, b3, b4, b5, b6⟩ := hB.cells
  have hw1' := Lib.hid hw1
  have hBB' := Lib.hid hBB
  have h1 : (o.kind == 1) = false := by rw [beq_eq_false_iff_ne]; exact h4 1 (by omega) (by omega)
  have h2 : (o.kind == 2) = false := by rw [beq_eq_false_iff_ne]; exact h4 2 (by omega) (by omega)
  have h3 : (o.kind == 3) = false := by rw [beq_eq_false_iff_ne]; exact h4 3 (by omega) (by omega)
  have h4' : (o.kind == 4) = false := by rw [beq_eq_false_iff_ne]; exact h4 4 (by omega) (by omega)
  have h5 : (o.kind == 5) = false := by rw [beq_eq_false_iff_ne]; exact h4 5 (by omega) (by omega)
  have h6 : (o.kind == 6) = false := by rw [beq_eq_false_iff_ne]; exact h4 6 (by omega) (by omega)
  have h7 : (o.kind == 7) = false := by rw [beq_eq_false_iff_ne]; exact h4 7 (by omega) (by omega)
  have h8 : (o.kind == 8) = false := by rw [beq_eq_false_iff_ne]; exact h4 8 (by omega) (by omega)
  have h9 : (o.kind == 9) = false := by rw [beq_eq_false_iff_ne]; exact h4 9 (by omega) (by omega)
  clear hP hB hP1 hI ho hw1 hBB h4
  unfold opV
  go_enter Try.func30, Try.ntmps30
  go_upto_region 1 with fail
  rw [← hw1'.out, ← hBB'.out]
  go_wp2_with fail
  go_ret
  exact ⟨rfl, _, _, _, _, _, _, P1.out, I1.out.more⟩

end Go.Proofs.Ytckioocahmbhkaa
