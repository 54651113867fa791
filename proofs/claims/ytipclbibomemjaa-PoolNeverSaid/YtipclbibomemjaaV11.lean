/- The pair of pools; tells. -/
import Derived.Test.YtipclbibomemjaaV10
namespace Go.Proofs.Ytipclbibomemjaa
open Go Go.RowKit Go.Maps

/-- What a script keeps small. -/
structure PS.small (P : PS) : Prop where
  ok : P.ok
  cap : P.cap ≤ 600000
  pins : P.pins.length < 1000000
  wr : P.wr < 1000000

structure PairF (w : World) (T : Nat → Prop) (b pb m1 m2 rb : Nat) (T2 : Nat → Prop) (P : PS) : Prop where
  blk : w.heap[b]? = some (.cells #[.pointer (some ⟨pb, 0, none⟩), .pointer (some ⟨rb, 0, none⟩)] 30)
  pool : PoolF w pb m1 m2 P
  ref : RfAt w T2 rb P
  tb : T b
  tp : T pb
  t1 : T m1
  t2 : T m2
  tr : ∀ k, T2 k → T k
  n0 : b ≠ pb
  n1 : b ≠ m1
  n2 : b ≠ m2
  r0 : ¬ T2 b
  r1 : ¬ T2 pb
  r2 : ¬ T2 m1
  r3 : ¬ T2 m2
  lt : ∀ k, T k → k < w.heap.size

section
variable {w w' : World} {T T2 : Nat → Prop} {b pb m1 m2 rb : Nat} {P P' : PS}
theorem PairF.cells (h : PairF w T b pb m1 m2 rb T2 P) : w.cell? ⟨b, 0, none⟩ = some (.pointer (some ⟨pb, 0, none⟩)) ∧ w.cell? ⟨b, 1, none⟩ = some (.pointer (some ⟨rb, 0, none⟩)) ∧ w.cell? ⟨rb, 0, none⟩ = some (.int .i64 P.size) := by
  obtain ⟨lv, pv, hF, _, _⟩ := h.ref.f
  exact ⟨by simp [World.cell?, h.blk], by simp [World.cell?, h.blk], hF.cells.1⟩
theorem PairF.other {S : Nat → Prop} (h : PairF w T b pb m1 m2 rb T2 P) (hc : Chg S w w') (hs : ∀ k, T k → ¬ S k) : PairF w' T b pb m1 m2 rb T2 P :=
  ⟨hc.get h.blk (hs _ h.tb), h.pool.chg hc (hs _ h.tp) (hs _ h.t1) (hs _ h.t2), h.ref.chg hc (fun k e => hs k (h.tr k e)), h.tb, h.tp, h.t1, h.t2, h.tr, h.n0, h.n1, h.n2, h.r0, h.r1, h.r2, h.r3, fun k e => Nat.lt_of_lt_of_le (h.lt k e) hc.size⟩
theorem PairF.chg0 (h : PairF w T b pb m1 m2 rb T2 P) (hc : Chg (fun _ => False) w w') : PairF w' T b pb m1 m2 rb T2 P := h.other hc (fun _ _ f => f)
theorem PairF.rf (h : PairF w T b pb m1 m2 rb T2 P) : ∃ lv pv, RF w rb P lv pv := by
  obtain ⟨lv, pv, hF, _, _⟩ := h.ref.f
  exact ⟨lv, pv, hF⟩
end

section
variable {w : World} {rb : Nat} {P : PS}
theorem rfree_p (h : ∃ lv pv, RF w rb P lv pv) (hok : P.small) {zs : List Int} (hz : nums P.free = zs) : Calls Try.prog 29 #[.pointer (some ⟨rb, 0, none⟩)] w fun e w' => ∃ a c, e = .returned (.slice a zs.length c) ∧ NewI w w' (.slice a zs.length c) zs ∧ Chg (fun _ => False) w w' := by
  obtain ⟨lv, pv, h⟩ := h
  refine (rfree_any w rb P lv pv h hok.ok.len).mono ?_
  rintro e w' ⟨v, rfl, hN, hc⟩
  rw [hz] at hN
  obtain ⟨a, c, rfl⟩ := hN.slice
  exact ⟨a, c, rfl, hN, hc⟩
theorem rusable_p (h : ∃ lv pv, RF w rb P lv pv) (hok : P.small) {zs : List Int} (hz : nums P.usable = zs) : Calls Try.prog 30 #[.pointer (some ⟨rb, 0, none⟩)] w fun e w' => ∃ a c, e = .returned (.slice a zs.length c) ∧ NewI w w' (.slice a zs.length c) zs ∧ Chg (fun _ => False) w w' := by
  obtain ⟨lv, pv, h⟩ := h
  refine (rusable_any w rb P lv pv h hok.ok.len (Nat.le_of_lt hok.pins)).mono ?_
  rintro e w' ⟨v, rfl, hN, hc⟩
  rw [hz] at hN
  obtain ⟨a, c, rfl⟩ := hN.slice
  exact ⟨a, c, rfl, hN, hc⟩
theorem rroom_p (h : ∃ lv pv, RF w rb P lv pv) (hok : P.small) {n : Int} (hn : P.room = n) : Calls Try.prog 31 #[.pointer (some ⟨rb, 0, none⟩)] w fun e w' => e = .returned (.int .i64 n) ∧ Chg (fun _ => False) w w' := by
  obtain ⟨lv, pv, h⟩ := h
  have := rroom_any w rb P lv pv h hok.ok (Nat.le_trans hok.cap (by omega)) (Nat.le_of_lt hok.pins)
  rw [hn] at this; exact this
theorem rlists_p (h : ∃ lv pv, RF w rb P lv pv) (hok : P.small) (d : Int) {v : Value} {gone : List Int} (hs : SeesI w v gone) (hl : gone.length ≤ 1000000) {n : Int} (hn : P.lists d gone = n) : Calls Try.prog 34 #[.pointer (some ⟨rb, 0, none⟩), .int .i64 d, v] w fun e w' => e = .returned (.int .i64 n) ∧ Chg (fun _ => False) w w' := by
  obtain ⟨lv, pv, h⟩ := h
  have := rlists_any w rb P lv pv h hok.ok (Nat.le_of_lt hok.pins) d v gone hs hl
  rw [hn] at this; exact this
end
section
variable {w : World} {pb m1 m2 : Nat} {P : PS}
theorem free_p (h : PoolF w pb m1 m2 P) (hok : P.small) {zs : List Int} (hz : nums P.free = zs) : Calls Try.prog 15 #[.pointer (some ⟨pb, 0, none⟩)] w fun e w' => ∃ a c, e = .returned (.slice a zs.length c) ∧ NewI w w' (.slice a zs.length c) zs ∧ Chg (fun _ => False) w w' := by
  refine (free_any w pb m1 m2 P h hok.ok).mono ?_
  rintro e w' ⟨v, rfl, hN, hc⟩
  rw [hz] at hN
  obtain ⟨a, c, rfl⟩ := hN.slice
  exact ⟨a, c, rfl, hN, hc⟩
theorem usable_p (h : PoolF w pb m1 m2 P) (hok : P.small) {zs : List Int} (hz : nums P.usable = zs) : Calls Try.prog 14 #[.pointer (some ⟨pb, 0, none⟩)] w fun e w' => ∃ a c, e = .returned (.slice a zs.length c) ∧ NewI w w' (.slice a zs.length c) zs ∧ Chg (fun _ => False) w w' := by
  refine (usable_any w pb m1 m2 P h hok.ok).mono ?_
  rintro e w' ⟨v, rfl, hN, hc⟩
  rw [hz] at hN
  obtain ⟨a, c, rfl⟩ := hN.slice
  exact ⟨a, c, rfl, hN, hc⟩
theorem room_p (h : PoolF w pb m1 m2 P) (hok : P.small) {n : Int} (hn : P.room = n) : Calls Try.prog 19 #[.pointer (some ⟨pb, 0, none⟩)] w fun e w' => e = .returned (.int .i64 n) ∧ Chg (fun _ => False) w w' := by
  have := room_any w pb m1 m2 P h hok.ok (Nat.le_trans hok.cap (by omega))
  rw [hn] at this; exact this
end

set_option maxRecDepth 100000 in
set_option maxHeartbeats 4000000 in
theorem tells_any {w : World} {T T2 : Nat → Prop} {b pb m1 m2 rb : Nat} {P : PS} (h : PairF w T b pb m1 m2 rb T2 P) (hok : P.small) :
    Calls Try.prog 9 #[.pointer (some ⟨b, 0, none⟩)] w fun e w' => e = .returned (.bool true) ∧ Chg (fun _ => False) w w' := by
  have H := Lib.hid h
  have Hok := Lib.hid hok
  have KX : Hid (∀ w', PairF w' T b pb m1 m2 rb T2 P → w'.cell? ⟨b, 0, none⟩ = some (.pointer (some ⟨pb, 0, none⟩)) ∧ w'.cell? ⟨b, 1, none⟩ = some (.pointer (some ⟨rb, 0, none⟩)) ∧ w'.cell? ⟨rb, 0, none⟩ = some (.int .i64 P.size)) := Lib.hid fun w' h => h.cells
  obtain ⟨c0, c1, c2⟩ := h.cells
  obtain ⟨fs, hfs⟩ : ∃ fs, nums P.free = fs := ⟨_, rfl⟩
  obtain ⟨us, hus⟩ : ∃ us, nums P.usable = us := ⟨_, rfl⟩
  obtain ⟨r, hr⟩ : ∃ r, P.room = r := ⟨_, rfl⟩
  have hfl : fs.length ≤ 9223372036854775807 := by rw [← hfs, nums_length]; have := hok.ok.len; omega
  have hul : us.length ≤ 9223372036854775807 := by rw [← hus, nums_length]; have := usable_len hok.ok; omega
  have HFS := Lib.hid hfs
  have HUS := Lib.hid hus
  have HR := Lib.hid hr
  have hbb : ((P.size : Int) == (P.size : Int)) = true := beq_self_eq_true _
  have hrr : (r == r) = true := beq_self_eq_true _
  clear h hok hfs hus hr
  go_enter Try.func9, Try.ntmps9
  go_wp2_with fail
  refine (free_p H.out.pool Hok.out HFS.out).mono ?_
  rintro e w1 ⟨a1, k1, rfl, hN, hc⟩
  have H1 := Lib.hid (H.out.chg0 hc)
  have C1 := Lib.hid hc
  have S1 := Lib.hid hN.sees
  obtain ⟨d0, d1, d2⟩ := H1.out.cells
  clear hN hc c0 c1 c2
  go_wp2_with fail
  refine (rfree_p H1.out.rf Hok.out HFS.out).mono ?_
  rintro e w2 ⟨a2, k2, rfl, hN, hc⟩
  have H2 := Lib.hid (H1.out.chg0 hc)
  have C2 := Lib.hid (C1.out.trans hc (fun _ f => f.elim))
  have S2 := Lib.hid (S1.out.chg0 hc)
  have R2 := Lib.hid hN.sees
  obtain ⟨c0, c1, c2⟩ := H2.out.cells
  clear hN hc d0 d1 d2 H1 C1 S1
  go_wp2_with fail
  refine (usable_p H2.out.pool Hok.out HUS.out).mono ?_
  rintro e w3 ⟨a3, k3, rfl, hN, hc⟩
  have H3 := Lib.hid (H2.out.chg0 hc)
  have C3 := Lib.hid (C2.out.trans hc (fun _ f => f.elim))
  have S3 := Lib.hid (S2.out.chg0 hc)
  have R3 := Lib.hid (R2.out.chg0 hc)
  have U3 := Lib.hid hN.sees
  obtain ⟨d0, d1, d2⟩ := H3.out.cells
  clear hN hc c0 c1 c2 H2 C2 S2 R2
  go_wp2_with fail
  refine (rusable_p H3.out.rf Hok.out HUS.out).mono ?_
  rintro e w4 ⟨a4, k4, rfl, hN, hc⟩
  have H4 := Lib.hid (H3.out.chg0 hc)
  have C4 := Lib.hid (C3.out.trans hc (fun _ f => f.elim))
  have S4 := Lib.hid (S3.out.chg0 hc)
  have R4 := Lib.hid (R3.out.chg0 hc)
  have U4 := Lib.hid (U3.out.chg0 hc)
  have V4 := Lib.hid hN.sees
  clear hN hc d0 d1 d2 H3 C3 S3 R3 U3
  go_wp2_with fail
  refine (sameI_yes _ _ _ fs S4.out R4.out hfl).mono ?_
  rintro e w5 ⟨rfl, hc⟩
  have H5 := Lib.hid (H4.out.chg0 hc)
  have C5 := Lib.hid (C4.out.trans hc (fun _ f => f.elim))
  have U5 := Lib.hid (U4.out.chg0 hc)
  have V5 := Lib.hid (V4.out.chg0 hc)
  clear hc H4 C4 S4 R4 U4 V4
  go_wp2_with fail
  refine (sameI_yes _ _ _ us U5.out V5.out hul).mono ?_
  rintro e w6 ⟨rfl, hc⟩
  have H6 := Lib.hid (H5.out.chg0 hc)
  have C6 := Lib.hid (C5.out.trans hc (fun _ f => f.elim))
  have H6d := Lib.hid (H6.out.chg0 (Chg.refl (fun _ => False) w6).drew)
  obtain ⟨c0, c1, c2⟩ := H6.out.cells
  clear hc H5 C5 U5 V5
  go_wp2_with fail
  go_region_held3 (fun w' => w'.cell? ⟨b, 0, none⟩ = some (.pointer (some ⟨pb, 0, none⟩)) ∧ w'.cell? ⟨b, 1, none⟩ = some (.pointer (some ⟨rb, 0, none⟩)) ∧ w'.cell? ⟨rb, 0, none⟩ = some (.int .i64 P.size))
    (first
      | exact kx4
      | exact kx5
      | go_keep)
    (first
      | (go_simp; go_at_call 20; refine (count_any _ _ _ _ _ H6d.out.pool).mono ?_; rintro e w' ⟨rfl, rfl⟩)
      | (go_simp; go_at_call 19; refine (room_p H6d.out.pool Hok.out HR.out).mono ?_; rintro e w7 ⟨rfl, hc7⟩; have P7 := H6d.out.chg0 hc7; have C7 := Lib.hid ((C6.out.drew).trans hc7 (fun _ f => f.elim)); have kx4 := KX.out w7 P7; have HP7 := Lib.hid P7; clear hc7 P7)
      | (go_simp; go_at_call 31; refine (rroom_p HP7.out.rf Hok.out HR.out).mono ?_; rintro e w8 ⟨rfl, hc8⟩; have P8 := HP7.out.chg0 hc8; have C8 := Lib.hid (C7.out.trans hc8 (fun _ f => f.elim)); have kx5 := KX.out w8 P8; have HP8 := Lib.hid P8; clear hc8 P8))
  all_goals
    go_wp2_with fail
    go_ret
    exact ⟨rfl, C8.out⟩
end Go.Proofs.Ytipclbibomemjaa
