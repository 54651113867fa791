/- Walks: step at large; DiskPlays. -/
import Derived.Test.YtckioocahmbhkaaP11
import Derived.Test.YtckioocahmbhkaaP6
import Derived.Test.YtckioocahmbhkaaC2
namespace Go.Proofs.Ytckioocahmbhkaa
open Go Go.RowKit Go.Maps Go.MuLone

theorem step_any {w0 w : World} {pb b rb k : Nat} (h : Pr w0 w pb b rb k) (hk : k ≤ 400) (o : OpD) (dv fv : Value) (ho : OpIn w0 o dv fv) :
    Calls Try.prog 30 #[.pointer (some ⟨pb, 0, none⟩), opV o dv fv] w fun e w' => e = .returned (.bool true) ∧ Pr w0 w' pb b rb (k + 1) := by
  by_cases h1 : o.kind = 1
  · exact step_1 h hk o dv fv ho h1
  by_cases h2 : o.kind = 2
  · exact step_2 h hk o dv fv ho h2
  by_cases h3 : o.kind = 3
  · exact step_3 h hk o dv fv ho h3
  by_cases h4 : o.kind = 4
  · exact step_4 h hk o dv fv ho h4
  by_cases h5 : o.kind = 5
  · exact step_5 h hk o dv fv ho h5
  by_cases h6 : o.kind = 6
  · exact step_6 h hk o dv fv ho h6
  by_cases h7 : o.kind = 7
  · exact step_7 h hk o dv fv ho h7
  by_cases h8 : o.kind = 8
  · exact step_8 h hk o dv fv ho h8
  by_cases h9 : o.kind = 9
  · exact step_9 h hk o dv fv ho h9
  refine step_0 h hk o dv fv ho (fun n hn1 hn2 e => ?_)
  have : n = 1 ∨ n = 2 ∨ n = 3 ∨ n = 4 ∨ n = 5 ∨ n = 6 ∨ n = 7 ∨ n = 8 ∨ n = 9 := by omega
  rcases this with rfl | rfl | rfl | rfl | rfl | rfl | rfl | rfl | rfl
  · exact h1 e
  · exact h2 e
  · exact h3 e
  · exact h4 e
  · exact h5 e
  · exact h6 e
  · exact h7 e
  · exact h8 e
  · exact h9 e

theorem mostK_le (l : List OpD) (n : Nat) : n ≤ l.foldl (fun n o => max n o.data.length) n ∧ ∀ o ∈ l, o.data.length ≤ l.foldl (fun n o => max n o.data.length) n := by
  induction l generalizing n with
  | nil => exact ⟨Nat.le_refl _, fun o h => by simp at h⟩
  | cons x l ih =>
    have h1 := (ih (max n x.data.length)).1
    refine ⟨Nat.le_trans (Nat.le_max_left _ _) h1, fun o ho => ?_⟩
    rcases List.mem_cons.1 ho with e | e
    · subst e; exact Nat.le_trans (Nat.le_max_right _ _) h1
    · exact (ih _).2 o e
theorem mostK_at {os : List OpD} {k n : Nat} {o : OpD} (h : os[k]? = some o) (hk : k < n) : o.data.length ≤ mostK (os.take n) :=
  (mostK_le (os.take n) 0).2 o (List.mem_of_getElem? (i := k) (by rw [List.getElem?_take, if_pos hk]; exact h))

theorem stands_pr {w0 w : World} {pb b rb k : Nat} (h : Pr w0 w pb b rb k) (hk : k ≤ 400) :
    Calls Try.prog 31 #[.pointer (some ⟨pb, 0, none⟩)] w fun e w' => e = .returned (.bool true) ∧ Pr w0 w' pb b rb k := by
  obtain ⟨own, rown, gl, n, cap, D, hP, hI⟩ := h
  exact (stands_any hP (hI.ok (by omega))).mono fun e w' ⟨h1, h2⟩ => ⟨h1, _, _, _, _, _, _, h2, hI⟩

def OpsNil (w : World) (v : Value) : Prop := ∀ g off n c i dv, v = .slice (some ⟨g, off, none⟩) n c → i < n → w.cell? ⟨g, off + i * 7 + 5, none⟩ = some dv → ∀ m c', dv = .slice none m c' → c' = 0

theorem OpIn.nil0 (w : World) (k : Int) : OpIn w ⟨k, 0, 0, 0, 0, [], []⟩ (.slice none 0 0) (.slice none 0 0) :=
  ⟨⟨none, 0, rfl, fun _ => rfl, fun ad e => by cases e⟩, fun m c e => by cases e; rfl, by simp, ⟨none, 0, rfl, by simp, fun h => by simp at h⟩, by simp⟩

theorem seesB_under {w w' : World} {v : Value} {bs : List UInt8} (h : SeesB w v bs) (hb : Below w.heap.size w w') : SeesB w' v bs := by
  obtain ⟨a, cap, rfl, h1, h2⟩ := h
  refine ⟨a, cap, rfl, h1, fun ad e j x hx => ?_⟩
  have := h2 ad e j x hx
  exact (hb.cell (World.block_lt_of_cell? _ _ this)).trans this
theorem opsA_below {w w' : World} {v : Value} {os : List OpD} (h : OpsA w v os) (hb : Below w.heap.size w w') : OpsA w' v os := by
  have key : ∀ (p : Addr) (x : Value), w.cell? p = some x → w'.cell? p = some x := fun p x hx => (hb.cell (World.block_lt_of_cell? _ _ hx)).trans hx
  obtain ⟨a, cap, rfl, h1⟩ := h
  refine ⟨a, cap, rfl, fun hp => ?_⟩
  obtain ⟨g, off, e, hc⟩ := h1 hp
  refine ⟨g, off, e, fun i o ho => ?_⟩
  obtain ⟨dv, fv, k0, k1, k2, k3, k4, k5, k6, s1, s2, s3⟩ := hc i o ho
  refine ⟨dv, fv, key _ _ k0, key _ _ k1, key _ _ k2, key _ _ k3, key _ _ k4, key _ _ k5, key _ _ k6, ?_, ?_, s3⟩
  · obtain ⟨a, cap, rfl, h1, h2⟩ := s1
    exact ⟨a, cap, rfl, h1, fun ad e j x hx => key _ _ (h2 ad e j x hx)⟩
  · obtain ⟨a, cap, rfl, h1, h2⟩ := s2
    refine ⟨a, cap, rfl, h1, fun hp => ?_⟩
    obtain ⟨g, o, e, hc⟩ := h2 hp
    exact ⟨g, o, e, fun i x hx => ⟨key _ _ (hc i x hx).1, key _ _ (hc i x hx).2⟩⟩

/-- What is made first: a disk of each kind. -/
theorem pr_new {w0 w2 w3 : World} {cap : Int} {bs : List UInt8} {b rb : Nat} {own rown : Own} (hb : Below w0.heap.size w0 w2) (h1 : St w2 w3 own b (DS.image cap bs)) (w4 : World) (h2 : StR w3 w4 rown rb (DS.image cap bs)) :
    St w0 w4 own b (DS.image cap bs) ∧ StR w0 w4 rown rb (DS.image cap bs) ∧ ∀ k, own.blocks k → ¬ rown.blocks k := by
  have s3 : St w0 w3 own b (DS.image cap bs) := ⟨h1.disk, hb.trans (h1.below.mono hb.size), fun k hk => Nat.le_trans hb.size (h1.new k hk)⟩
  refine ⟨s3.other (S := fun _ => False) (Chg.of_below h2.below) (fun _ f => f.elim), ⟨h2.disk, s3.below.trans (h2.below.mono s3.below.size), fun k hk => Nat.le_trans s3.below.size (h2.new k hk)⟩, fun k hk e => ?_⟩
  have := h1.lt hk
  have := h2.new k e
  omega

set_option maxRecDepth 100000 in
set_option maxHeartbeats 16000000 in
theorem plays_go (v1 v2 : Value) (cap : Int) (bs : List UInt8) (os : List OpD) (w : World) (h1 : SeesB w v1 bs) (hc1 : ∀ a n c, v1 = .slice a n c → n ≤ c ∧ c ≤ maxLen) (h2 : OpsA w v2 os) (h3 : OpsNil w v2)
    (hl : bs.length ≤ 524288) (hm : mostK (os.take 200) ≤ 10000) (g1 : 2 ≤ cap) (g2 : cap ≤ 524287) (g3 : bs.length % 4096 = 0) (g4 : (bs.length / 4096 : Nat) ≤ cap) :
    Calls Try.prog 7 #[.int .i64 cap, v1, v2] w fun e w' => e = .returned (.bool true) ∧ Below w.heap.size w w' := by
  have H1 := Lib.hid h1
  have H2 := Lib.hid h2
  have H3 := Lib.hid h3
  have G := Lib.hid (And.intro g1 (And.intro g2 (And.intro g3 g4)))
  obtain ⟨a1, c1, rfl, _⟩ := h1
  obtain ⟨a2, c2, rfl, _⟩ := h2
  obtain ⟨hn1, hn2⟩ := hc1 _ _ _ rfl
  have Hn1 := Lib.hid hn1
  have Hn2 := Lib.hid hn2
  have hlI : ¬ (524288 : Int) < (bs.length : Int) := by omega
  have HD := Lib.hid (decide_eq_true hm)
  have hbl : bs.length ≤ 140737488351232 := by omega
  clear h3 g1 g2 g3 g4 hn1 hn2 hc1
  go_enter Try.func7, Try.ntmps7
  go_wp2_with (first
    | (go_at_call 8; refine (first_any _).mono ?_; rintro e wa ⟨rfl, ba⟩; have BA := Lib.hid ba; have HA2 := Lib.hid (opsA_below H2.out ba); clear ba)
    | (go_at_call 27; refine (small_any _ _ os HA2.out).mono ?_; rintro e w' ⟨rfl, rfl⟩; rw [HD.out])
    | fail)
  have HSA : Hid (SeesB wa (.slice a1 bs.length c1) bs) := Lib.hid (seesB_under H1.out BA.out)
  refine (bytes_any wa _ bs HSA.out hbl).mono ?_
  rintro e wb ⟨gB, cB, rfl, hgB, hrB, hcB⟩
  have BB : Hid (Below w.heap.size w wb) := Lib.hid (BA.out.trans ((hcB.toBelow (fun _ f => f.elim)).mono BA.out.size))
  obtain ⟨hk1, hk2⟩ : bs.length ≤ cB ∧ cB ≤ maxLen := by
    obtain ⟨_, _, e, x1, x2, _⟩ := ownsRow_slice hrB
    cases e
    exact ⟨x1, x2⟩
  have HSB := Lib.hid (SeesB.of_row hrB)
  clear hgB hrB hcB BA HSA
  go_wp2_with fail
  refine (image_go wb cap _ bs cB HSB.out hk1 hk2 G.out.1 G.out.2.1 G.out.2.2.1 G.out.2.2.2).mono ?_
  rintro e wc ⟨b, own, rfl, sC⟩
  have SC := Lib.hid sC
  have HSC : Hid (SeesB wc (.slice a1 bs.length c1) bs) := Lib.hid (seesB_under H1.out (BB.out.trans (sC.below.mono BB.out.size)))
  clear sC hk1 hk2 HSB
  go_wp2_with fail
  refine (rimage_go wc cap _ bs c1 HSC.out Hn1.out Hn2.out G.out.1 G.out.2.1 G.out.2.2.1 G.out.2.2.2).mono ?_
  rintro e wd ⟨rb, rown, rfl, sD⟩
  obtain ⟨t1, t2, t3⟩ := pr_new BB.out SC.out wd sD
  have T1 := Lib.hid t1
  have T2 := Lib.hid t2
  have T3 := Lib.hid t3
  obtain ⟨i1, hi', hz0, hz1, hz2⟩ := info_parts info5
  obtain ⟨L, hL⟩ : ∃ L, L = wd.heap.size := ⟨_, rfl⟩
  have HL := Lib.hid hL
  clear sD t1 t2 t3 SC HSC BB hL
  go_wp2_with (first
    | (go_at_call 12; refine (num_any _ _).mono ?_; rintro e w' ⟨rfl, rfl⟩)
    | (at_make; refine wpList_make_own _ rfl _ _ 27 rfl 0 5 i1 (.int .u8 0) 1 Try.underlying27 hi' hz0 hz1 .i64 .i64 _ 4200 rfl rfl (by simp) (by rw [hz2]; omega) (by unfold maxLen; omega) (Nat.zero_le _) ?_; intro we hwe hge; rw [← HL.out] at hwe ⊢; have HWE := Lib.hid hwe; have HGE := Lib.hid hge; clear hwe hge)
    | fail)
  have hce : Chg (fun _ => False) wd we := (Chg.refl _ wd).grown HGE.out (fun k e => by cases e)
  have hLe : L < we.heap.size := by
    rcases HWE.out.2 with ⟨e, _⟩ | ⟨g, c, cur, e, _, hh, _⟩
    · cases e
    · cases e; exact heap_lt hh
  obtain ⟨pb, hpb⟩ : ∃ pb, pb = we.heap.size := ⟨_, rfl⟩
  obtain ⟨wf, hwf⟩ : ∃ wf, wf = we.alloc (.cells #[.pointer (some ⟨b, 0, none⟩), .pointer (some ⟨rb, 0, none⟩), .slice (some ⟨L, 0, none⟩) 0 4200] 63) := ⟨_, rfl⟩
  have hcf : Chg (fun _ => False) wd wf := by rw [hwf]; exact hce.alloc _
  have hwd := T1.out.below.size
  have PR : Hid (Pr w wf pb b rb 0) := Lib.hid ⟨own, rown, L, 0, 4200, DS.image cap bs,
    ⟨T1.out.other hcf (fun _ f => f.elim), T2.out.other hcf (fun _ f => f.elim), T3.out, by rw [hwf, hpb]; exact heap_alloc_new _ _, ⟨_, by rw [hwf]; exact HWE.out.alloc _⟩, by rw [hpb]; have := hce.size; omega, by rw [HL.out]; exact hwd,
      fun e => by have := T1.out.lt e; have := hce.size; omega, fun e => by have := T2.out.lt e; have := hce.size; omega, T1.out.free (by rw [HL.out]; exact Nat.le_refl _), T2.out.free (by rw [HL.out]; exact Nat.le_refl _), by omega⟩, PInv.image G.out.2.1 hl⟩
  rw [← hwf, ← hpb]
  clear hce hLe hcf hwd T1 T2 T3 HWE HGE HL hpb hwf
  go_loopg [13, 14] (200 : Nat) (fun gm iv fv wr => ∃ k : Nat, k ≤ 200 ∧ k ≤ os.length ∧ gm = 200 - k ∧ iv = .int .i64 k ∧ Pr w wr pb b rb k)
  case atStart => exact ⟨0, by omega, by omega, rfl, rfl, PR.out⟩
  case round =>
    obtain ⟨k, hk, hkl, hg, rfl, hP⟩ := hrel
    have Hg := Lib.hid hg
    have HP := Lib.hid hP
    clear hg hP PR
    by_cases hlt : k < os.length
    · by_cases hlt2 : k < 200
      · obtain ⟨o, ho⟩ : ∃ o, os[k]? = some o := ⟨_, List.getElem?_eq_getElem hlt⟩
        obtain ⟨_, _, e, hA⟩ := opsA_below H2.out HP.out.below
        cases e
        obtain ⟨_, _, e, hA0⟩ := H2.out
        cases e
        obtain ⟨g, off, rfl, hc⟩ := hA (by omega)
        obtain ⟨g', off', e, hc0⟩ := hA0 (by omega)
        cases e
        obtain ⟨dv, fv', k0, k1, k2, k3, k4, k5, k6, _, _, _⟩ := hc k o ho
        obtain ⟨dv0, fv0, _, _, _, _, _, z5, z6, z7, z8, z9⟩ := hc0 k o ho
        have e5 : some dv0 = some dv := z5.symm.trans (((HP.out.below).cell (World.block_lt_of_cell? _ _ z5)).symm.trans k5)
        have e6 : some fv0 = some fv' := z6.symm.trans (((HP.out.below).cell (World.block_lt_of_cell? _ _ z6)).symm.trans k6)
        cases e5
        cases e6
        have HIN : Hid (OpIn w o dv fv') := Lib.hid ⟨z7, fun m c e => H3.out g off _ _ k dv rfl hlt z5 m c e, by have := mostK_at ho (n := 200) hlt2; omega, z8, z9⟩
        have hki : (k : Int) < (os.length : Int) := by omega
        clear hA hA0 hc hc0 z5 z6 z7 z8 z9 ho
        go_wp2_with fail
        refine (step_any HP.out (by omega) o dv fv' HIN.out).mono ?_
        rintro e w2 ⟨rfl, hP2⟩
        have HP2 := Lib.hid hP2
        clear hP2
        go_wp2_with (go_at_call 31; refine (stands_pr HP2.out (by omega)).mono ?_; rintro e w3 ⟨rfl, hP3⟩; have HP3 := Lib.hid hP3; clear hP3)
        go_roundg (200 - (k + 1))
        case measure => have := Hg.out; omega
        case rel => exact ⟨k + 1, by omega, by omega, rfl, by go_num, HP3.out⟩
      · obtain rfl : k = 200 := by omega
        have HP8 := Lib.hid (step_any HP.out (by omega) ⟨8, 0, 0, 0, 0, [], []⟩ _ _ (OpIn.nil0 w 8))
        have HN9 := Lib.hid (OpIn.nil0 w 9)
        unfold opV at HP8
        go_wp2_with (first
         | (go_at_call 30; refine HP8.out.mono ?_; rintro e w8 ⟨rfl, hP8⟩; have HP9 := Lib.hid (step_any hP8 (by omega) ⟨9, 0, 0, 0, 0, [], []⟩ _ _ HN9.out); unfold opV at HP9; clear hP8 HP8)
         | (go_at_call 30; refine HP9.out.mono ?_; rintro e w9 ⟨rfl, hP9⟩; have HB9 := Lib.hid hP9.below; clear hP9))
        go_ret
        exact ⟨rfl, HB9.out⟩
    · have HP8 := Lib.hid (step_any HP.out (by omega) ⟨8, 0, 0, 0, 0, [], []⟩ _ _ (OpIn.nil0 w 8))
      have HN9 := Lib.hid (OpIn.nil0 w 9)
      unfold opV at HP8
      go_wp2_with (first
       | (go_at_call 30; refine HP8.out.mono ?_; rintro e w8 ⟨rfl, hP8⟩; have HP9 := Lib.hid (step_any hP8 (by omega) ⟨9, 0, 0, 0, 0, [], []⟩ _ _ HN9.out); unfold opV at HP9; clear hP8 HP8)
       | (go_at_call 30; refine HP9.out.mono ?_; rintro e w9 ⟨rfl, hP9⟩; have HB9 := Lib.hid hP9.below; clear hP9))
      go_ret
      exact ⟨rfl, HB9.out⟩
end Go.Proofs.Ytckioocahmbhkaa
