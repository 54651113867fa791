/- Walks: step, the kinds that look or sync. -/
import Derived.Test.YtckioocahmbhkaaP9
import Derived.Deep.RegionHeld3
namespace Go.Proofs.Ytckioocahmbhkaa
open Go Go.RowKit Go.Maps Go.MuLone

/-- The pair behind k calls. -/
def Pr (w0 w : World) (pb b rb k : Nat) : Prop := ∃ own rown gl n cap D, PairF w0 w pb own b rown rb gl n cap D D ∧ PInv D k
theorem Pr.below {w0 w : World} {pb b rb k : Nat} (h : Pr w0 w pb b rb k) : Below w0.heap.size w0 w := by
  obtain ⟨_, _, _, _, _, _, h, _⟩ := h
  exact h.st.below
theorem Pr.chg0 {w0 w w' : World} {pb b rb k : Nat} (h : Pr w0 w pb b rb k) (hc : Chg (fun _ => False) w w') : Pr w0 w' pb b rb k := by
  obtain ⟨_, _, _, _, _, _, h, hi⟩ := h
  exact ⟨_, _, _, _, _, _, h.chg0 hc, hi⟩

theorem src_of {w0 w : World} {pb b rb gl n cap : Nat} {own rown : Own} {D R : DS} (h : PairF w0 w pb own b rown rb gl n cap D R) {v : Value} {p : List UInt8} (hs : SeesB w0 v p) (hn : ∀ m c, v = .slice none m c → c = 0) : Src w pb own rown gl v p := by
  have hb := h.st.below
  obtain ⟨a, c, rfl, h1, h2⟩ := hs
  have hblk : ∀ ad, a = some ad → p ≠ [] → ad.spot = none ∧ ad.block < w0.heap.size := fun ad e hne => by
    subst e
    cases p with
    | nil => exact (hne rfl).elim
    | cons y ys =>
      have := h2 ad rfl 0 y rfl
      have e0 : ad.add 0 = ad := by unfold Addr.add; split <;> simp_all
      have hlt := World.block_lt_of_cell? _ _ this
      rw [e0] at this hlt
      exact ⟨congrArg Addr.spot (addr_head (by rw [e0]; exact this)), hlt⟩
  refine ⟨⟨a, c, rfl, h1, fun ad e j x hx => ?_⟩, hn, fun ad n c e hne => ?_⟩
  · have := h2 ad e j x hx
    exact (hb.cell (World.block_lt_of_cell? _ _ this)).trans this
  · cases e
    obtain ⟨e1, e2⟩ := hblk ad rfl hne
    exact ⟨e1, fun e => by have := h.st.new _ e; omega, fun e => by have := h.rs.new _ e; omega, by have := h.pnew; omega, by have := h.gnew; omega, Nat.lt_of_lt_of_le e2 hb.size⟩
theorem srcF_of {w0 w : World} {pb b rb gl n cap : Nat} {own rown : Own} {D R : DS} (h : PairF w0 w pb own b rown rb gl n cap D R) {v : Value} {fs : List (Int × Int)} (hs : FatesA w0 v fs) : SrcF w own rown v fs := by
  have hb := h.st.below
  obtain ⟨a, c, rfl, h1, h2⟩ := hs
  refine ⟨⟨a, c, rfl, h1, fun hp => ?_⟩, fun ad n c e hp => ?_⟩
  · obtain ⟨g, o, e, hc⟩ := h2 hp
    refine ⟨g, o, e, fun i x hx => ?_⟩
    obtain ⟨k1, k2⟩ := hc i x hx
    exact ⟨(hb.cell (p := ⟨g, o + i * 2, none⟩) (World.block_lt_of_cell? _ _ k1)).trans k1, (hb.cell (p := ⟨g, o + i * 2 + 1, none⟩) (World.block_lt_of_cell? _ _ k2)).trans k2⟩
  · obtain ⟨g, o, e2, hc⟩ := h2 hp
    subst e2
    cases e
    obtain ⟨x, hx⟩ : ∃ x, fs[0]? = some x := ⟨_, List.getElem?_eq_getElem hp⟩
    have hlt : g < w0.heap.size := World.block_lt_of_cell? _ _ (hc 0 x hx).1
    exact ⟨fun e => by have : w0.heap.size ≤ g := h.st.new _ e; omega, fun e => by have : w0.heap.size ≤ g := h.rs.new _ e; omega, Nat.lt_of_lt_of_le hlt hb.size⟩

/-- The boxed call. -/
structure Box (w : World) (own rown : Own) (pb gl B : Nat) (o : OpD) (dv fv : Value) : Prop where
  blk : w.heap[B]? = some (.cells #[.int .i64 o.kind, .int .i64 o.i, .int .i64 o.at', .int .i64 o.x, .int .u8 o.fill.toNat, dv, fv] 66)
  o : ¬ own.blocks B
  r : ¬ rown.blocks B
  p : B ≠ pb
  l : B ≠ gl
section
variable {w w' : World} {own own' rown rown' : Own} {pb gl B : Nat} {o : OpD} {dv fv : Value}
theorem Box.chg0 (h : Box w own rown pb gl B o dv fv) (hc : Chg (fun _ => False) w w') : Box w' own rown pb gl B o dv fv := ⟨hc.get h.blk (fun f => f), h.o, h.r, h.p, h.l⟩
theorem Box.stepD (h : Box w own rown pb gl B o dv fv) (t : Step w own w' own') : Box w' own' rown pb gl B o dv fv :=
  ⟨t.chg.get h.blk h.o, fun e => (t.new _ e).elim h.o (fun e2 => by have := heap_lt h.blk; omega), h.r, h.p, h.l⟩
theorem Box.stepR (h : Box w own rown pb gl B o dv fv) (t : Step w rown w' rown') : Box w' own rown' pb gl B o dv fv :=
  ⟨t.chg.get h.blk h.r, h.o, fun e => (t.new _ e).elim h.r (fun e2 => by have := heap_lt h.blk; omega), h.p, h.l⟩
theorem Box.cells (h : Box w own rown pb gl B o dv fv) : w.cell? ⟨B, 0, none⟩ = some (.int .i64 o.kind) ∧ w.cell? ⟨B, 1, none⟩ = some (.int .i64 o.i) ∧ w.cell? ⟨B, 2, none⟩ = some (.int .i64 o.at') ∧ w.cell? ⟨B, 3, none⟩ = some (.int .i64 o.x) ∧ w.cell? ⟨B, 4, none⟩ = some (.int .u8 o.fill.toNat) ∧ w.cell? ⟨B, 5, none⟩ = some dv ∧ w.cell? ⟨B, 6, none⟩ = some fv := by
  refine ⟨?_, ?_, ?_, ?_, ?_, ?_, ?_⟩ <;> simp [World.cell?, h.blk]
end
theorem Box.new {w0 w : World} {pb b rb gl n cap : Nat} {own rown : Own} {D R : DS} (h : PairF w0 w pb own b rown rb gl n cap D R) (o : OpD) (dv fv : Value) :
    Box (w.alloc (.cells #[.int .i64 o.kind, .int .i64 o.i, .int .i64 o.at', .int .i64 o.x, .int .u8 o.fill.toNat, dv, fv] 66)) own rown pb gl w.heap.size o dv fv :=
  ⟨heap_alloc_new _ _, h.st.free (Nat.le_refl _), h.rs.free (Nat.le_refl _), fun e => by have := h.plt; omega, fun e => by have := h.llt; omega⟩

/-- What a call of a script reads. -/
structure OpIn (w0 : World) (o : OpD) (dv fv : Value) : Prop where
  data : SeesB w0 dv o.data
  nil : ∀ m c, dv = .slice none m c → c = 0
  few : o.data.length ≤ 10000
  fates : FatesA w0 fv o.fates
  i : o.i ≤ 9223372036854775807

set_option maxRecDepth 100000 in
set_option maxHeartbeats 8000000 in
/-- Sync. -/
theorem step_4 {w0 w : World} {pb b rb k : Nat} (h : Pr w0 w pb b rb k) (hk : k ≤ 400) (o : OpD) (dv fv : Value) (ho : OpIn w0 o dv fv) (h4 : o.kind = 4) :
    Calls Try.prog 30 #[.pointer (some ⟨pb, 0, none⟩), opV o dv fv] w fun e w' => e = .returned (.bool true) ∧ Pr w0 w' pb b rb (k + 1) := by
  obtain ⟨own, rown, gl, n, cap, D, hP, hI⟩ := h
  have hB := Box.new hP o dv fv
  have hP1 := hP.chg0 ((Chg.refl (fun _ => False) w).alloc (.cells #[.int .i64 o.kind, .int .i64 o.i, .int .i64 o.at', .int .i64 o.x, .int .u8 o.fill.toNat, dv, fv] 66))
  obtain ⟨w1, hw1⟩ : ∃ w1, w1 = w.alloc (.cells #[.int .i64 o.kind, .int .i64 o.i, .int .i64 o.at', .int .i64 o.x, .int .u8 o.fill.toNat, dv, fv] 66) := ⟨_, rfl⟩
  obtain ⟨B, hBB⟩ : ∃ B, B = w.heap.size := ⟨_, rfl⟩
  rw [← hw1] at hB hP1
  rw [← hBB] at hB
  have P1 := Lib.hid hP1
  have B1 := Lib.hid hB
  have I1 := Lib.hid hI
  have HO := Lib.hid ho
  have Ok1 := Lib.hid (hI.ok (by omega))
  have hpn := hI.pn
  have hwr := hI.wr
  have hpg := hI.pages
  obtain ⟨c0, c1, _, _⟩ := hP1.cells
  obtain ⟨b0, b1, b2, b3, b4, b5, b6⟩ := hB.cells
  have hw1' := Lib.hid hw1
  have hBB' := Lib.hid hBB
  rw [h4] at b0
  clear hP hB hP1 hI ho hw1 hBB h4
  unfold opV
  go_enter Try.func30, Try.ntmps30
  go_upto_region 1 with fail
  rw [← hw1'.out, ← hBB'.out]
  go_wp2_with fail
  obtain ⟨c, D', hD⟩ : ∃ c D', D.sync = (c, D') := ⟨_, _, rfl⟩
  have HD := Lib.hid hD
  have I2 := Lib.hid (I1.out.sync (by omega))
  rw [hD] at I2
  refine (sync_st P1.out.st Ok1.out hD).mono ?_
  rintro e w2 ⟨rfl, own2, s2, t2⟩
  have HR := Lib.hid (fun w' (h : RefAt w' rown rb D) => rsync_any w' rown rb D h Ok1.out (by omega))
  rw [hD] at HR
  have P2 := Lib.hid (P1.out.stepD s2 t2).drew
  obtain ⟨_, d1, _, _⟩ := (P1.out.stepD s2 t2).cells
  clear s2 t2 hD
  go_wp2_with fail

  go_region_held3 (fun w' => w'.cell? ⟨pb, 1, none⟩ = some (.pointer (some ⟨rb, 0, none⟩)))
    (first
      | exact kx4
      | go_keep)
    (first
      | (go_simp; go_at_call 12; refine (num_any _ _).mono ?_; rintro e w' ⟨rfl, rfl⟩)
      | (go_simp; go_at_call 43; refine (HR.out _ P2.out.rs.disk).mono ?_; rintro e w4 ⟨rfl, rown4, s4, t4⟩; have P4 := P2.out.stepR (P2.out.rs.step s4 t4) t4; have kx4 := P4.cells.2.1; have HP4 := Lib.hid P4; clear s4 t4 P4))
  all_goals
    go_wp2_with fail
    go_ret
    exact ⟨rfl, _, _, _, _, _, _, HP4.out, I2.out⟩

set_option maxRecDepth 100000 in
set_option maxHeartbeats 8000000 in
/-- Arm. -/
theorem step_5 {w0 w : World} {pb b rb k : Nat} (h : Pr w0 w pb b rb k) (hk : k ≤ 400) (o : OpD) (dv fv : Value) (ho : OpIn w0 o dv fv) (h4 : o.kind = 5) :
    Calls Try.prog 30 #[.pointer (some ⟨pb, 0, none⟩), opV o dv fv] w fun e w' => e = .returned (.bool true) ∧ Pr w0 w' pb b rb (k + 1) := by
  obtain ⟨own, rown, gl, n, cap, D, hP, hI⟩ := h
  have hB := Box.new hP o dv fv
  have hP1 := hP.chg0 ((Chg.refl (fun _ => False) w).alloc (.cells #[.int .i64 o.kind, .int .i64 o.i, .int .i64 o.at', .int .i64 o.x, .int .u8 o.fill.toNat, dv, fv] 66))
  obtain ⟨w1, hw1⟩ : ∃ w1, w1 = w.alloc (.cells #[.int .i64 o.kind, .int .i64 o.i, .int .i64 o.at', .int .i64 o.x, .int .u8 o.fill.toNat, dv, fv] 66) := ⟨_, rfl⟩
  obtain ⟨B, hBB⟩ : ∃ B, B = w.heap.size := ⟨_, rfl⟩
  rw [← hw1] at hB hP1
  rw [← hBB] at hB
  have P1 := Lib.hid hP1
  have B1 := Lib.hid hB
  have I1 := Lib.hid hI
  have HO := Lib.hid ho
  have Ok1 := Lib.hid (hI.ok (by omega))
  have hpn := hI.pn
  have hwr := hI.wr
  have hpg := hI.pages
  obtain ⟨c0, c1, _, _⟩ := hP1.cells
  obtain ⟨b0, b1, b2, b3, b4, b5, b6⟩ := hB.cells
  have hw1' := Lib.hid hw1
  have hBB' := Lib.hid hBB
  rw [h4] at b0
  clear hP hB hP1 hI ho hw1 hBB h4
  unfold opV
  go_enter Try.func30, Try.ntmps30
  go_upto_region 1 with fail
  rw [← hw1'.out, ← hBB'.out]
  go_wp2_with fail
  have q0 : w1.drew.cell? ⟨pb, 0, none⟩ = some (.pointer (some ⟨b, 0, none⟩)) := c0
  go_still_tail 6, (by kernel_rfl)
  change wpList _ _ _ _ _ w1.drew
  go_wp2_with fail
  obtain ⟨c, D', hD⟩ : ∃ c D', D.arm o.i = (c, D') := ⟨_, _, rfl⟩
  have I2 := Lib.hid (I1.out.arm o.i)
  rw [hD] at I2
  refine (arm_st P1.out.drew.st o.i HO.out.i hD).mono ?_
  rintro e w2 ⟨rfl, s2, t2⟩
  have HR := Lib.hid (fun w' (h : RefAt w' rown rb D) => rarm_any w' rown rb D h o.i HO.out.i)
  rw [hD] at HR
  have P2 := Lib.hid (P1.out.drew.stepD s2 t2).drew
  have d1 := (P1.out.drew.stepD s2 t2).cells.2.1
  have d2 := ((B1.out.chg0 (Chg.refl (fun _ => False) w1).drew).stepD t2).cells.2.1
  have B2 := Lib.hid (((B1.out.chg0 (Chg.refl (fun _ => False) w1).drew).stepD t2).chg0 (Chg.refl (fun _ => False) w2).drew)
  clear s2 t2 hD
  go_wp2_with fail
  go_region_held3 (fun w' => w'.cell? ⟨pb, 1, none⟩ = some (.pointer (some ⟨rb, 0, none⟩)) ∧ w'.cell? ⟨B, 1, none⟩ = some (.int .i64 o.i))
    (first
      | exact kx4
      | go_keep)
    (first
      | (go_simp; go_at_call 12; refine (num_any _ _).mono ?_; rintro e w' ⟨rfl, rfl⟩)
      | (go_simp; go_at_call 44; refine (HR.out _ P2.out.rs.disk).mono ?_; rintro e w4 ⟨rfl, s4, hc4⟩; have t4 := Step.of_b P2.out.rs.str hc4; have P4 := P2.out.stepR (P2.out.rs.step s4 t4) t4; have kx4 := And.intro P4.cells.2.1 (B2.out.stepR t4).cells.2.1; have HP4 := Lib.hid P4; clear s4 t4 P4))
  all_goals
    go_wp2_with fail
    go_ret
    exact ⟨rfl, _, _, _, _, _, _, HP4.out, I2.out⟩

set_option maxRecDepth 100000 in
set_option maxHeartbeats 8000000 in
/-- Pending. -/
theorem step_8 {w0 w : World} {pb b rb k : Nat} (h : Pr w0 w pb b rb k) (hk : k ≤ 400) (o : OpD) (dv fv : Value) (ho : OpIn w0 o dv fv) (h4 : o.kind = 8) :
    Calls Try.prog 30 #[.pointer (some ⟨pb, 0, none⟩), opV o dv fv] w fun e w' => e = .returned (.bool true) ∧ Pr w0 w' pb b rb (k + 1) := by
  obtain ⟨own, rown, gl, n, cap, D, hP, hI⟩ := h
  have hB := Box.new hP o dv fv
  have hP1 := hP.chg0 ((Chg.refl (fun _ => False) w).alloc (.cells #[.int .i64 o.kind, .int .i64 o.i, .int .i64 o.at', .int .i64 o.x, .int .u8 o.fill.toNat, dv, fv] 66))
  obtain ⟨w1, hw1⟩ : ∃ w1, w1 = w.alloc (.cells #[.int .i64 o.kind, .int .i64 o.i, .int .i64 o.at', .int .i64 o.x, .int .u8 o.fill.toNat, dv, fv] 66) := ⟨_, rfl⟩
  obtain ⟨B, hBB⟩ : ∃ B, B = w.heap.size := ⟨_, rfl⟩
  rw [← hw1] at hB hP1
  rw [← hBB] at hB
  have P1 := Lib.hid hP1
  have B1 := Lib.hid hB
  have I1 := Lib.hid hI
  have HO := Lib.hid ho
  have Ok1 := Lib.hid (hI.ok (by omega))
  have hpn := hI.pn
  have hwr := hI.wr
  have hpg := hI.pages
  obtain ⟨c0, c1, _, _⟩ := hP1.cells
  obtain ⟨b0, b1, b2, b3, b4, b5, b6⟩ := hB.cells
  have hw1' := Lib.hid hw1
  have hBB' := Lib.hid hBB
  rw [h4] at b0
  clear hP hB hP1 hI ho hw1 hBB h4
  unfold opV
  go_enter Try.func30, Try.ntmps30
  go_upto_region 1 with fail
  rw [← hw1'.out, ← hBB'.out]
  go_wp2_with fail
  refine (pending_st P1.out.st Ok1.out (by omega) rfl).mono ?_
  rintro e w2 ⟨qa, qc, rho, rfl, hW, s2, t2⟩
  have P2 := Lib.hid (P1.out.stepD s2 t2)
  have d1 := P2.out.cells.2.1
  have HW := Lib.hid hW.sees
  obtain ⟨lv, pv, hF⟩ := P2.out.rs.disk
  have r2 : w2.cell? ⟨rb, 2, none⟩ = some pv := by simp [World.cell?, hF.blk, refCells]
  have HW2 := Lib.hid hF.pend.sees
  clear s2 t2 hW hF
  go_wp2_with fail
  refine (samews_any _ _ _ D.pending HW.out HW2.out (by omega)).mono ?_
  rintro e w3 ⟨rfl, hc3⟩
  have P3 := Lib.hid (P2.out.chg0 hc3)
  clear hc3
  go_wp2_with fail
  go_ret
  exact ⟨rfl, _, _, _, _, _, _, P3.out, I1.out.more⟩

set_option maxRecDepth 100000 in
set_option maxHeartbeats 8000000 in
/-- Durable. -/
theorem step_9 {w0 w : World} {pb b rb k : Nat} (h : Pr w0 w pb b rb k) (hk : k ≤ 400) (o : OpD) (dv fv : Value) (ho : OpIn w0 o dv fv) (h4 : o.kind = 9) :
    Calls Try.prog 30 #[.pointer (some ⟨pb, 0, none⟩), opV o dv fv] w fun e w' => e = .returned (.bool true) ∧ Pr w0 w' pb b rb (k + 1) := by
  obtain ⟨own, rown, gl, n, cap, D, hP, hI⟩ := h
  have hB := Box.new hP o dv fv
  have hP1 := hP.chg0 ((Chg.refl (fun _ => False) w).alloc (.cells #[.int .i64 o.kind, .int .i64 o.i, .int .i64 o.at', .int .i64 o.x, .int .u8 o.fill.toNat, dv, fv] 66))
  obtain ⟨w1, hw1⟩ : ∃ w1, w1 = w.alloc (.cells #[.int .i64 o.kind, .int .i64 o.i, .int .i64 o.at', .int .i64 o.x, .int .u8 o.fill.toNat, dv, fv] 66) := ⟨_, rfl⟩
  obtain ⟨B, hBB⟩ : ∃ B, B = w.heap.size := ⟨_, rfl⟩
  rw [← hw1] at hB hP1
  rw [← hBB] at hB
  have P1 := Lib.hid hP1
  have B1 := Lib.hid hB
  have I1 := Lib.hid hI
  have HO := Lib.hid ho
  have Ok1 := Lib.hid (hI.ok (by omega))
  have hpn := hI.pn
  have hwr := hI.wr
  have hpg := hI.pages
  obtain ⟨c0, c1, _, _⟩ := hP1.cells
  obtain ⟨b0, b1, b2, b3, b4, b5, b6⟩ := hB.cells
  have hw1' := Lib.hid hw1
  have hBB' := Lib.hid hBB
  rw [h4] at b0
  clear hP hB hP1 hI ho hw1 hBB h4
  unfold opV
  go_enter Try.func30, Try.ntmps30
  go_upto_region 1 with fail
  rw [← hw1'.out, ← hBB'.out]
  go_wp2_with fail
  obtain ⟨bs, hbs⟩ : ∃ bs, D.lasting.flatten = bs := ⟨_, rfl⟩
  refine (durable_st P1.out.st Ok1.out hbs).mono ?_
  rintro e w2 ⟨ra, rc, rfl, hh, s2, t2⟩
  have HRD := Lib.hid (rdurable_any w2 rown rb D (P1.out.stepD s2 t2).rs.disk Ok1.out)
  rw [hbs] at HRD
  have Hbs := Lib.hid hbs
  have P2 := Lib.hid (P1.out.stepD s2 t2)
  have d1 := P2.out.cells.2.1
  have hs := SeesB.of_row hh.1
  have HS := Lib.hid hs
  clear s2 t2 hh hs hbs
  go_wp2_with (go_at_call 49; refine HRD.out.mono ?_; rintro e w3 ⟨sa, sc, rfl, hh3, hc3⟩; have P3 := Lib.hid (P2.out.chg0 hc3); have HS2 := Lib.hid (HS.out.none hc3); have hs3 := SeesB.of_row hh3.1; have HS3 := Lib.hid hs3; clear hh3 hs3 hc3)
  refine (same_yes _ _ _ _ HS2.out HS3.out).mono ?_
  rintro e w' ⟨rfl, rfl⟩
  go_wp2_with fail
  go_ret
  exact ⟨rfl, _, _, _, _, _, _, P3.out, I1.out.more⟩

set_option maxRecDepth 100000 in
set_option maxHeartbeats 8000000 in
/-- Crash. -/
theorem step_6 {w0 w : World} {pb b rb k : Nat} (h : Pr w0 w pb b rb k) (hk : k ≤ 400) (o : OpD) (dv fv : Value) (ho : OpIn w0 o dv fv) (h4 : o.kind = 6) :
    Calls Try.prog 30 #[.pointer (some ⟨pb, 0, none⟩), opV o dv fv] w fun e w' => e = .returned (.bool true) ∧ Pr w0 w' pb b rb (k + 1) := by
  obtain ⟨own, rown, gl, n, cap, D, hP, hI⟩ := h
  have hB := Box.new hP o dv fv
  have hP1 := hP.chg0 ((Chg.refl (fun _ => False) w).alloc (.cells #[.int .i64 o.kind, .int .i64 o.i, .int .i64 o.at', .int .i64 o.x, .int .u8 o.fill.toNat, dv, fv] 66))
  obtain ⟨w1, hw1⟩ : ∃ w1, w1 = w.alloc (.cells #[.int .i64 o.kind, .int .i64 o.i, .int .i64 o.at', .int .i64 o.x, .int .u8 o.fill.toNat, dv, fv] 66) := ⟨_, rfl⟩
  obtain ⟨B, hBB⟩ : ∃ B, B = w.heap.size := ⟨_, rfl⟩
  rw [← hw1] at hB hP1
  rw [← hBB] at hB
  have P1 := Lib.hid hP1
  have B1 := Lib.hid hB
  have I1 := Lib.hid hI
  have HO := Lib.hid ho
  have Ok1 := Lib.hid (hI.ok (by omega))
  have hpn := hI.pn
  have hwr := hI.wr
  have hpg := hI.pages
  obtain ⟨c0, c1, _, _⟩ := hP1.cells
  obtain ⟨b0, b1, b2, b3, b4, b5, b6⟩ := hB.cells
  have hw1' := Lib.hid hw1
  have hBB' := Lib.hid hBB
  rw [h4] at b0
  clear hP hB hP1 hI ho hw1 hBB h4
  unfold opV
  go_enter Try.func30, Try.ntmps30
  go_upto_region 1 with fail
  rw [← hw1'.out, ← hBB'.out]
  have HSF := Lib.hid (srcF_of P1.out HO.out.fates)
  go_wp2_with fail
  refine (pcrash_any P1.out Ok1.out (by omega) _ o.fates HSF.out).mono ?_
  rintro e w2 ⟨rfl, own2, rown2, hP2⟩
  have P2 := Lib.hid hP2
  clear hP2
  go_wp2_with fail
  go_ret
  exact ⟨rfl, _, _, _, _, _, _, P2.out, I1.out.crash (by omega) _⟩

set_option maxRecDepth 100000 in
set_option maxHeartbeats 8000000 in
/-- Write of data. -/
theorem step_3 {w0 w : World} {pb b rb k : Nat} (h : Pr w0 w pb b rb k) (hk : k ≤ 400) (o : OpD) (dv fv : Value) (ho : OpIn w0 o dv fv) (h4 : o.kind = 3) :
    Calls Try.prog 30 #[.pointer (some ⟨pb, 0, none⟩), opV o dv fv] w fun e w' => e = .returned (.bool true) ∧ Pr w0 w' pb b rb (k + 1) := by
  obtain ⟨own, rown, gl, n, cap, D, hP, hI⟩ := h
  have hB := Box.new hP o dv fv
  have hP1 := hP.chg0 ((Chg.refl (fun _ => False) w).alloc (.cells #[.int .i64 o.kind, .int .i64 o.i, .int .i64 o.at', .int .i64 o.x, .int .u8 o.fill.toNat, dv, fv] 66))
  obtain ⟨w1, hw1⟩ : ∃ w1, w1 = w.alloc (.cells #[.int .i64 o.kind, .int .i64 o.i, .int .i64 o.at', .int .i64 o.x, .int .u8 o.fill.toNat, dv, fv] 66) := ⟨_, rfl⟩
  obtain ⟨B, hBB⟩ : ∃ B, B = w.heap.size := ⟨_, rfl⟩
  rw [← hw1] at hB hP1
  rw [← hBB] at hB
  have P1 := Lib.hid hP1
  have B1 := Lib.hid hB
  have I1 := Lib.hid hI
  have HO := Lib.hid ho
  have Ok1 := Lib.hid (hI.ok (by omega))
  have hpn := hI.pn
  have hwr := hI.wr
  have hpg := hI.pages
  obtain ⟨c0, c1, _, _⟩ := hP1.cells
  obtain ⟨b0, b1, b2, b3, b4, b5, b6⟩ := hB.cells
  have hw1' := Lib.hid hw1
  have hBB' := Lib.hid hBB
  have hcap := hI.cap
  rw [h4] at b0
  clear hP hB hP1 hI ho hw1 hBB h4
  unfold opV
  go_enter Try.func30, Try.ntmps30
  go_upto_region 1 with fail
  rw [← hw1'.out, ← hBB'.out]
  have HSR := Lib.hid (src_of P1.out HO.out.data HO.out.nil)
  go_wp2_with fail
  refine (pwrite_any P1.out Ok1.out hcap (by omega) (by omega) o.i _ o.data HSR.out HO.out.few).mono ?_
  rintro e w2 ⟨rfl, own2, rown2, gl2, n2, cap2, hP2⟩
  have P2 := Lib.hid hP2
  clear hP2
  go_wp2_with fail
  go_ret
  exact ⟨rfl, _, _, _, _, _, _, P2.out, I1.out.write _ _⟩

end Go.Proofs.Ytckioocahmbhkaa
