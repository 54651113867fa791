/- Walks: the law DiskOwn. -/
import Derived.Test.YtckioocahmbhkaaGreatDoorDO4
import Derived.Great.BuildSlice
namespace Go.Proofs.YtckioocahmbhkaaGreatDoor
open Go Go.RowKit Go.Maps Go.MuLone

/-- What the disks' pages were: copies in nobody's memory. -/
structure WasS (w0 w : World) (own : BOwn) (os : Nat → Own) (rv wv : Value) (Ds : Nat → DS) (n : Nat) : Prop where
  row : ∃ vs : List Value, vs.length = n ∧ w.ownsRow 0 47 1 wv n vs ∧ ∀ (i : Nat) x, vs[i]? = some x → w.ownsRow 0 5 1 x (Ds i).lasting.flatten.length (bVs (Ds i).lasting.flatten) ∧ ∀ g, x.ownBlock = some g → Free own os rv g ∧ w0.heap.size ≤ g
  free : ∀ g, wv.ownBlock = some g → Free own os rv g ∧ w0.heap.size ≤ g
theorem WasS.keep {w0 w w' : World} {own own' : BOwn} {os os' : Nat → Own} {rv rv' wv : Value} {Ds : Nat → DS} {n : Nat} (h : WasS w0 w own os rv wv Ds n) (hk : Keeps (fun _ => False) w own os rv w' own' os' rv') : WasS w0 w' own' os' rv' wv Ds n := by
  obtain ⟨vs, h1, h2, h3⟩ := h.row
  have st : ∀ {base : Nat} {e : TypeId} {sz n : Nat} {v : Value} {xs : List Value}, w.ownsRow base e sz v n xs → (∀ g, v.ownBlock = some g → Free own os rv g ∧ w0.heap.size ≤ g) → w'.ownsRow base e sz v n xs ∧ ∀ g, v.ownBlock = some g → Free own' os' rv' g ∧ w0.heap.size ≤ g := fun hr hf =>
    ⟨row_same hr (fun g e => (hk.free g (brow_lt hr g e) (hf g e).1 (fun f => f)).2), fun g e => ⟨(hk.free g (brow_lt hr g e) (hf g e).1 (fun f => f)).1, (hf g e).2⟩⟩
  exact ⟨⟨vs, h1, (st h2 h.free).1, fun i x hx => st (h3 i x hx).1 (h3 i x hx).2⟩, (st h2 h.free).2⟩
/-- The same behind the book's end. -/
def WasA (w : World) (os : Nat → Own) (wv : Value) (Ds : Nat → DS) (n : Nat) : Prop :=
  ∃ vs : List Value, vs.length = n ∧ w.ownsRow 0 47 1 wv n vs ∧ (∀ g, wv.ownBlock = some g → ∀ d, ¬ (os d).blocks g) ∧ ∀ (i : Nat) x, vs[i]? = some x → w.ownsRow 0 5 1 x (Ds i).lasting.flatten.length (bVs (Ds i).lasting.flatten) ∧ ∀ g, x.ownBlock = some g → ∀ d, ¬ (os d).blocks g
theorem WasS.after {w0 w w' : World} {own : BOwn} {os : Nat → Own} {rv wv : Value} {Ds : Nat → DS} {n : Nat} (h : WasS w0 w own os rv wv Ds n) (hk : ∀ g, g < w.heap.size → Free own os rv g → w'.heap[g]? = w.heap[g]?) : WasA w' os wv Ds n := by
  obtain ⟨vs, h1, h2, h3⟩ := h.row
  exact ⟨vs, h1, row_same h2 (fun g e => hk g (brow_lt h2 g e) (h.free g e).1), fun g e => (h.free g e).1.2.1, fun i x hx => ⟨row_same (h3 i x hx).1 (fun g e => hk g (brow_lt (h3 i x hx).1 g e) ((h3 i x hx).2 g e).1), fun g e => ((h3 i x hx).2 g e).1.2.1⟩⟩
theorem WasA.chg {w w' : World} {os : Nat → Own} {wv : Value} {Ds : Nat → DS} {n : Nat} {S : Nat → Prop} (h : WasA w os wv Ds n) (hc : Chg S w w') (hs : ∀ g, (∀ d, ¬ (os d).blocks g) → ¬ S g) : WasA w' os wv Ds n := by
  obtain ⟨vs, h1, h2, h3, h4⟩ := h
  exact ⟨vs, h1, ownsRow_chg h2 hc (fun g e => hs g (h3 g e)), h3, fun i x hx => ⟨ownsRow_chg (h4 i x hx).1 hc (fun g e => hs g ((h4 i x hx).2 g e)), (h4 i x hx).2⟩⟩

set_option maxRecDepth 100000 in
set_option maxHeartbeats 8000000 in
theorem own_was {Q0 : Exit → Act → World → Prop} {s0 s1 s2 s3 s4 s6 s7 s8 s9 s10 s11 s12 s13 s16 s17 s18 s19 s20 s21 s22 s23 s24 s25 s26 s27 s28 s29 s30 s31 s32 s33 s34 s35 s36 s37 s38 s39 s40 s41 s42 s43 s44 s45 s46 s47 s48 s49 s50 s51 s52 s53 s54 s55 s56 s57 s58 s59 s60 s61 s62 s63 s64 s65 s66 s67 s68 s69 s70 s71 s72 s73 s74 s75 s76 s77 s78 s79 s80 s81 s82 s83 s84 s85 s86 s87 s88 s89 s90 s91 s92 s93 s94 s95 s96 s97 s98 s99 s100 s101 s102 s103 s104 s105 s106 s107 s108 s109 s110 s111 s112 s113 s114 s115 s116 s117 s118 s119 s120 s121 s122 s123 s124 s125 s126 s127 s128 s129 : Value} (w0 w : World) (own : BOwn) (bb dg dc : Nat) (bs : List Nat) (os : Nat → Own) (Ds : Nat → DS) (h8 : bs.length = 8) (hM : Many w0 w own bb (.slice (some ⟨dg, 0, none⟩) 8 dc) bs os Ds 120 30000 30)
    (hexit : ∀ ⦃u14 u15 u16 u94 u95 u96 u97 u98 u99 u100 u101 u102 u103 u104 u105 u106 u107 : Value⦄ (w' : World), (∃ wv, u14 = wv ∧ Many w0 w' own bb (.slice (some ⟨dg, 0, none⟩) 8 dc) bs os Ds 120 30000 30 ∧ WasS w0 w' own os (.slice (some ⟨dg, 0, none⟩) 8 dc) wv Ds 8) → Q0 .normal ⟨List.toArray (s0 :: s1 :: s2 :: s3 :: s4 :: .slice (some ⟨dg, 0, none⟩) 8 dc :: s6 :: s7 :: s8 :: s9 :: s10 :: s11 :: s12 :: s13 :: u14 :: u15 :: u16 :: s17 :: s18 :: s19 :: s20 :: s21 :: s22 :: s23 :: s24 :: s25 :: s26 :: s27 :: s28 :: s29 :: s30 :: s31 :: s32 :: s33 :: s34 :: s35 :: s36 :: s37 :: s38 :: s39 :: s40 :: s41 :: s42 :: s43 :: s44 :: s45 :: s46 :: s47 :: s48 :: s49 :: s50 :: s51 :: s52 :: s53 :: s54 :: s55 :: s56 :: s57 :: s58 :: s59 :: s60 :: s61 :: s62 :: s63 :: s64 :: s65 :: s66 :: s67 :: s68 :: s69 :: s70 :: s71 :: s72 :: s73 :: s74 :: s75 :: s76 :: s77 :: s78 :: s79 :: s80 :: s81 :: s82 :: s83 :: s84 :: s85 :: s86 :: s87 :: s88 :: s89 :: s90 :: s91 :: s92 :: s93 :: u94 :: u95 :: u96 :: u97 :: u98 :: u99 :: u100 :: u101 :: u102 :: u103 :: u104 :: u105 :: u106 :: u107 :: s108 :: s109 :: s110 :: s111 :: s112 :: s113 :: s114 :: s115 :: s116 :: s117 :: s118 :: s119 :: s120 :: s121 :: s122 :: s123 :: s124 :: s125 :: s126 :: s127 :: s128 :: s129 :: []), []⟩ w') :
    Code.wp Tryz.prog (blk 4 Tryz.f3) Q0 ⟨List.toArray (s0 :: s1 :: s2 :: s3 :: s4 :: .slice (some ⟨dg, 0, none⟩) 8 dc :: s6 :: s7 :: s8 :: s9 :: s10 :: s11 :: s12 :: s13 :: .slice none 0 0 :: .int .i64 0 :: s16 :: s17 :: s18 :: s19 :: s20 :: s21 :: s22 :: s23 :: s24 :: s25 :: s26 :: s27 :: s28 :: s29 :: s30 :: s31 :: s32 :: s33 :: s34 :: s35 :: s36 :: s37 :: s38 :: s39 :: s40 :: s41 :: s42 :: s43 :: s44 :: s45 :: s46 :: s47 :: s48 :: s49 :: s50 :: s51 :: s52 :: s53 :: s54 :: s55 :: s56 :: s57 :: s58 :: s59 :: s60 :: s61 :: s62 :: s63 :: s64 :: s65 :: s66 :: s67 :: s68 :: s69 :: s70 :: s71 :: s72 :: s73 :: s74 :: s75 :: s76 :: s77 :: s78 :: s79 :: s80 :: s81 :: s82 :: s83 :: s84 :: s85 :: s86 :: s87 :: s88 :: s89 :: s90 :: s91 :: s92 :: s93 :: s94 :: s95 :: s96 :: s97 :: s98 :: s99 :: s100 :: s101 :: s102 :: s103 :: s104 :: s105 :: s106 :: s107 :: s108 :: s109 :: s110 :: s111 :: s112 :: s113 :: s114 :: s115 :: s116 :: s117 :: s118 :: s119 :: s120 :: s121 :: s122 :: s123 :: s124 :: s125 :: s126 :: s127 :: s128 :: s129 :: []), []⟩ w := by
  have HX := Lib.hid hexit
  have HM := Lib.hid hM
  have H8 := Lib.hid h8
  obtain ⟨i1, hi1, hz0, hz1, hz2⟩ := info_parts info27
  clear hexit hM h8
  conv => arg 2; whnf
  go_wp2_with fail
  go_loopg [14, 15, 16] 8 (fun gm wv iv _ wr => ∃ (j : Nat) (a : Option Addr) (cap : Nat), j ≤ 8 ∧ gm = 8 - j ∧ iv = .int .i64 j ∧ wv = .slice a j cap ∧ Many w0 wr own bb (.slice (some ⟨dg, 0, none⟩) 8 dc) bs os Ds 120 30000 30 ∧ WasS w0 wr own os (.slice (some ⟨dg, 0, none⟩) 8 dc) (.slice a j cap) Ds j)
  case atStart => exact ⟨0, none, 0, by omega, rfl, rfl, rfl, HM.out, ⟨⟨[], rfl, World.ownsRow_nil _ _ _ _, fun i x hx => by simp at hx⟩, fun g e => by simp [Value.ownBlock] at e⟩⟩
  case round =>
    obtain ⟨j, a, cap, hj, hgm, rfl, rfl, hM1, hW⟩ := hrel
    have Hg := Lib.hid hgm
    have M1 := Lib.hid hM1
    have W1 := Lib.hid hW
    clear hgm hM1 hW
    by_cases hlt : j < 8
    · have hji : (j : Int) < 8 := by omega
      have hj0 : (0 : Int) ≤ (j : Int) := Int.natCast_nonneg _
      obtain ⟨b, hb⟩ : ∃ b, bs[j]? = some b := ⟨_, List.getElem?_eq_getElem (by rw [H8.out]; exact hlt)⟩
      have HB := Lib.hid hb
      have hcell : wr.cell? ⟨dg, j, none⟩ = some (.pointer (some ⟨b, 0, none⟩)) := by
        have h := M1.out.row.cells rfl j (ptr b) (by rw [List.getElem?_map, hb]; rfl)
        rw [bk_add, Nat.zero_add] at h
        exact h
      obtain ⟨fl, hfl⟩ : ∃ fl, (Ds j).lasting.flatten = fl := ⟨_, rfl⟩
      have HFl := Lib.hid hfl
      clear hb hfl
      go_wp2_with fail
      refine (M1.out.durable (by omega) HB.out HFl.out).mono ?_
      rintro e w2 ⟨a2, c2, rfl, hl2, hH2, hM2, hK2, -⟩
      have M2 := Lib.hid hM2
      have W2 := Lib.hid (W1.out.keep hK2)
      have R2 := Lib.hid hH2.row
      clear hH2 hM2 hK2 hcell
      go_wp2_with fail
      refine (bytes_any w2 _ fl (SeesB.of_row R2.out) (by omega)).mono ?_
      rintro e w3 ⟨g3, c3, rfl, hge3, hr3, hc3⟩
      obtain ⟨hM3, hK3⟩ := M2.out.chg0 hc3
      have M3 := Lib.hid hM3
      have W3 := Lib.hid (W2.out.keep hK3)
      have R3 := Lib.hid hr3
      have F3 : Hid (Free own os (.slice (some ⟨dg, 0, none⟩) 8 dc) g3 ∧ w0.heap.size ≤ g3) := Lib.hid ⟨M2.out.free_new hge3, Nat.le_trans M2.out.chg.size hge3⟩
      obtain ⟨vs, v1, v2, v3⟩ := W3.out.row
      have HV1 := Lib.hid v1
      have HV3 := Lib.hid v3
      have HRow : Hid (∀ o, (w3.alloc o).ownsRow 0 47 1 (.slice a j cap) j vs) := Lib.hid (fun o => ownsRow_chg v2 ((Chg.refl (fun _ => False) w3).alloc o) (fun _ _ f => f))
      have HV2 := Lib.hid v2
      clear hge3 hr3 hc3 hM3 hK3 v1 v2 v3
      go_wp2_with
        (at_builtin
         refine list_one (wr := w3.alloc (.cells #[.slice (some ⟨g3, 0, none⟩) fl.length c3] 47)) (by rfl) _ _ 25 47 i1 (.slice none 0 0) 24 Tryz.underlying25 hi1 hz0 hz1 hz2 rfl (by omega) (by rfl) (.slice a j cap) j vs (by rfl) (HRow.out _) (.slice (some ⟨g3, 0, none⟩) fl.length c3) rfl w3.heap.size (heap_alloc_new w3 _) (by rfl) (by omega) ?_
         intro g5 c5 w5 hr5 hc5 hat5)
      have HR5 := Lib.hid hr5
      have HC5 : Hid (Chg (fun x => (Value.slice a j cap).ownBlock = some x) w3 w5) := Lib.hid (((Chg.refl _ w3).alloc _).trans hc5 (fun _ h => Or.inl h))
      have HA5 := Lib.hid hat5
      clear hr5 hc5 hat5
      go_roundg (8 - (j + 1))
      case measure => have := Hg.out; omega
      case rel =>
        have hsz : (w3.alloc (.cells #[.slice (some ⟨g3, 0, none⟩) fl.length c3] 47)).heap.size = w3.heap.size + 1 := Array.size_push _
        obtain ⟨hM5, hK5⟩ := M3.out.other HC5.out (fun g e => .inr (W3.out.free g e))
        refine ⟨j + 1, some ⟨g5, 0, none⟩, c5, by omega, rfl, by go_num, rfl, hM5, ⟨⟨vs ++ [.slice (some ⟨g3, 0, none⟩) fl.length c3], by simp [HV1.out], HR5.out, fun i x hx => ?_⟩, fun g e => ?_⟩⟩
        · have hn5 : ∀ {x : Value} {n : Nat} {xs : List Value}, w3.ownsRow 0 5 1 x n xs → w5.ownsRow 0 5 1 x n xs := fun h => ownsRow_chg h HC5.out (fun g e => row_ne h HV2.out (by decide) g e)
          rcases Nat.lt_or_ge i j with hi | hi
          · rw [List.getElem?_append_left (by rw [HV1.out]; exact hi)] at hx
            obtain ⟨k1, k2⟩ := HV3.out i x hx
            exact ⟨hn5 k1, k2⟩
          · rw [List.getElem?_append_right (by rw [HV1.out]; exact hi), HV1.out] at hx
            have h0 : i - j = 0 := by have := (List.getElem?_eq_some_iff.1 hx).1; simp at this; omega
            rw [h0] at hx
            obtain rfl : i = j := by omega
            simp at hx; subst hx
            rw [HFl.out]
            exact ⟨hn5 R3.out, fun g e => by simp only [Value.ownBlock, Option.some.injEq] at e; rw [← e]; exact F3.out⟩
        · simp only [Value.ownBlock, Option.some.injEq] at e
          rw [← e]
          rcases HA5.out with e2 | e2
          · exact W3.out.free _ e2
          · exact ⟨M3.out.free_new (by omega), Nat.le_trans M3.out.chg.size (by omega)⟩
    · have hji : ¬ (j : Int) < 8 := by omega
      obtain rfl : j = 8 := by omega
      go_wp2_with fail
      exact HX.out wr ⟨_, rfl, M1.out, W1.out⟩

set_option maxRecDepth 100000 in
set_option maxHeartbeats 8000000 in
theorem own_ends {Q0 : Exit → Act → World → Prop} {s0 s1 s2 s3 s4 s6 s7 s8 s9 s10 s11 s12 s13 s15 s16 s17 s19 s20 s21 s22 s23 s24 s25 s26 s27 s28 s29 s30 s31 s32 s33 s34 s35 s36 s37 s38 s39 s40 s41 s42 s43 s44 s45 s46 s47 s48 s49 s50 s51 s52 s53 s54 s55 s56 s57 s58 s59 s60 s61 s62 s63 s64 s65 s66 s67 s68 s69 s70 s71 s72 s73 s74 s75 s76 s77 s78 s79 s80 s81 s82 s83 s84 s85 s86 s87 s88 s89 s90 s91 s92 s93 s94 s95 s96 s97 s98 s99 s100 s101 s102 s103 s104 s105 s106 s107 s108 s109 s110 s111 s112 s113 s114 s115 s116 s117 s118 s119 s120 s121 s122 s123 s124 s125 s126 s127 s128 s129 : Value} (w0 w : World) (dg dc : Nat) (bs : List Nat) (os : Nat → Own) (Ds : Nat → DS) (h8 : bs.length = 8) (wv : Value) (hA : After w0 w (.slice (some ⟨dg, 0, none⟩) 8 dc) bs os Ds 120) (hW : WasA w os wv Ds 8)
    (hexit : ∀ ⦃u2 u18 u19 u110 u111 u112 u113 u114 u115 u116 u117 u118 u119 u120 u121 u122 u123 u124 u125 : Value⦄ (w' : World), (Chg (fun _ => False) w0 w') → Q0 .normal ⟨List.toArray (s0 :: s1 :: u2 :: s3 :: s4 :: .slice (some ⟨dg, 0, none⟩) 8 dc :: s6 :: s7 :: s8 :: s9 :: s10 :: s11 :: s12 :: s13 :: wv :: s15 :: s16 :: s17 :: u18 :: u19 :: s20 :: s21 :: s22 :: s23 :: s24 :: s25 :: s26 :: s27 :: s28 :: s29 :: s30 :: s31 :: s32 :: s33 :: s34 :: s35 :: s36 :: s37 :: s38 :: s39 :: s40 :: s41 :: s42 :: s43 :: s44 :: s45 :: s46 :: s47 :: s48 :: s49 :: s50 :: s51 :: s52 :: s53 :: s54 :: s55 :: s56 :: s57 :: s58 :: s59 :: s60 :: s61 :: s62 :: s63 :: s64 :: s65 :: s66 :: s67 :: s68 :: s69 :: s70 :: s71 :: s72 :: s73 :: s74 :: s75 :: s76 :: s77 :: s78 :: s79 :: s80 :: s81 :: s82 :: s83 :: s84 :: s85 :: s86 :: s87 :: s88 :: s89 :: s90 :: s91 :: s92 :: s93 :: s94 :: s95 :: s96 :: s97 :: s98 :: s99 :: s100 :: s101 :: s102 :: s103 :: s104 :: s105 :: s106 :: s107 :: s108 :: s109 :: u110 :: u111 :: u112 :: u113 :: u114 :: u115 :: u116 :: u117 :: u118 :: u119 :: u120 :: u121 :: u122 :: u123 :: u124 :: u125 :: s126 :: s127 :: s128 :: s129 :: []), []⟩ w') :
    Code.wp Tryz.prog (blk 6 Tryz.f3) Q0 ⟨List.toArray (s0 :: s1 :: s2 :: s3 :: s4 :: .slice (some ⟨dg, 0, none⟩) 8 dc :: s6 :: s7 :: s8 :: s9 :: s10 :: s11 :: s12 :: s13 :: wv :: s15 :: s16 :: s17 :: .int .i64 0 :: s19 :: s20 :: s21 :: s22 :: s23 :: s24 :: s25 :: s26 :: s27 :: s28 :: s29 :: s30 :: s31 :: s32 :: s33 :: s34 :: s35 :: s36 :: s37 :: s38 :: s39 :: s40 :: s41 :: s42 :: s43 :: s44 :: s45 :: s46 :: s47 :: s48 :: s49 :: s50 :: s51 :: s52 :: s53 :: s54 :: s55 :: s56 :: s57 :: s58 :: s59 :: s60 :: s61 :: s62 :: s63 :: s64 :: s65 :: s66 :: s67 :: s68 :: s69 :: s70 :: s71 :: s72 :: s73 :: s74 :: s75 :: s76 :: s77 :: s78 :: s79 :: s80 :: s81 :: s82 :: s83 :: s84 :: s85 :: s86 :: s87 :: s88 :: s89 :: s90 :: s91 :: s92 :: s93 :: s94 :: s95 :: s96 :: s97 :: s98 :: s99 :: s100 :: s101 :: s102 :: s103 :: s104 :: s105 :: s106 :: s107 :: s108 :: s109 :: s110 :: s111 :: s112 :: s113 :: s114 :: s115 :: s116 :: s117 :: s118 :: s119 :: s120 :: s121 :: s122 :: s123 :: s124 :: s125 :: s126 :: s127 :: s128 :: s129 :: []), []⟩ w := by
  have HX := Lib.hid hexit
  have HA := Lib.hid hA
  have HW := Lib.hid hW
  have H8 := Lib.hid h8
  obtain ⟨wa, wc, rfl⟩ : ∃ a cap, wv = .slice a 8 cap := by
    obtain ⟨vs, _, h2, _⟩ := hW
    obtain ⟨a, cap, e, _⟩ := ownsRow_slice h2
    exact ⟨a, cap, e⟩
  clear hexit hA hW h8
  conv => arg 2; whnf
  go_wp2_with fail
  go_loopg [18, 19] 8 (fun gm iv _ wr => ∃ (j : Nat), j ≤ 8 ∧ gm = 8 - j ∧ iv = .int .i64 j ∧ After w0 wr (.slice (some ⟨dg, 0, none⟩) 8 dc) bs os Ds 120 ∧ WasA wr os (.slice wa 8 wc) Ds 8)
  case atStart => exact ⟨0, by omega, rfl, rfl, HA.out, HW.out⟩
  case round =>
    clear HA HW
    obtain ⟨j, hj, hgm, rfl, hA, hW⟩ := hrel
    have Hg := Lib.hid hgm
    have HA := Lib.hid hA
    have HW := Lib.hid hW
    clear hgm hA hW
    by_cases hlt : j < 8
    · have hji : (j : Int) < 8 := by omega
      have hj0 : (0 : Int) ≤ (j : Int) := Int.natCast_nonneg _
      obtain ⟨b, hb⟩ : ∃ b, bs[j]? = some b := ⟨_, List.getElem?_eq_getElem (by rw [H8.out]; exact hlt)⟩
      have HB := Lib.hid hb
      have hcell : wr.cell? ⟨dg, j, none⟩ = some (.pointer (some ⟨b, 0, none⟩)) := by
        have h := HA.out.row.cells rfl j (ptr b) (by rw [List.getElem?_map, hb]; rfl)
        rw [bk_add, Nat.zero_add] at h
        exact h
      obtain ⟨fl, hfl⟩ : ∃ fl, (Ds j).lasting.flatten = fl := ⟨_, rfl⟩
      have HFl := Lib.hid hfl
      obtain ⟨vs, v1, v2, v3, v4⟩ := HW.out
      obtain ⟨x, hx⟩ : ∃ x, vs[j]? = some x := ⟨_, List.getElem?_eq_getElem (by omega)⟩
      obtain ⟨r1, r2⟩ := v4 j x hx
      rw [hfl] at r1
      obtain ⟨xa, xc, rfl, _⟩ := ownsRow_slice r1
      obtain ⟨wg, wcap, ewv, hwcap, hwg⟩ := v2.form (by omega)
      cases ewv
      have hcell2 : wr.cell? ⟨wg, j, none⟩ = some (.slice xa fl.length xc) := by
        have h := v2.cells rfl j _ hx
        rw [bk_add, Nat.zero_add] at h
        exact h
      have hbb : (os j).blocks b := Own.blocks_of (HA.out.disk j b hb).1.str
      have HNd : Hid (dg ≠ b) := Lib.hid (fun e => HA.out.offr dg rfl j (by rw [e]; exact hbb))
      have HNw : Hid (wg ≠ b) := Lib.hid (fun e => v3 wg rfl j (by rw [e]; exact hbb))
      have R1 := Lib.hid r1
      have R2 := Lib.hid r2
      have HBb := Lib.hid hbb
      have AD : Hid (After w0 wr.drew (.slice (some ⟨dg, 0, none⟩) 8 dc) bs os Ds 120) := Lib.hid (HA.out.chg0 ((Chg.refl _ wr).drew))
      clear hb hfl v1 v2 v3 v4 hx r1 r2 hwcap hwg hbb
      go_wp2_with fail
      go_region_held3 (fun w' => w'.cell? ⟨dg, j, none⟩ = some (.pointer (some ⟨b, 0, none⟩)) ∧ w'.cell? ⟨wg, j, none⟩ = some (.slice xa fl.length xc))
        (first
          | exact kx4
          | exact kx5
          | go_keep)
        (first
          | (go_simp; go_at_call 13; refine (AD.out.durable (by omega) HB.out HFl.out).mono ?_; rintro e w4 ⟨a4, c4, rfl, hs4, hA4, hc4⟩; have C4 : Hid (Chg (fun x => x = b) wr w4) := Lib.hid (((Chg.refl _ wr).drew).trans hc4 (fun _ h => .inl h)); have kx4 := And.intro (bk_cell C4.out hcell HNd.out) (bk_cell C4.out hcell2 HNw.out); have S4 := Lib.hid hs4; have A4 := Lib.hid hA4; have W4 := Lib.hid (HW.out.chg C4.out (fun g e f => by subst f; exact e j HBb.out)); have Q4 : Hid (SeesB w4 (.slice xa fl.length xc) fl) := Lib.hid (SeesB.of_row (ownsRow_chg R1.out C4.out (fun g e f => by subst f; exact R2.out g e j HBb.out))); clear hs4 hA4 hc4)
          | (go_simp; go_at_call 16; refine (same_yes w4 _ _ fl S4.out Q4.out).mono ?_; rintro e w5 ⟨rfl, rfl⟩; have kx5 := kx4))
      all_goals
        go_wp2_with fail
        go_roundg (8 - (j + 1))
        case measure => have := Hg.out; omega
        case rel => exact ⟨j + 1, by omega, rfl, by go_num, A4.out, W4.out⟩
    · have hji : ¬ (j : Int) < 8 := by omega
      go_wp2_with fail
      exact HX.out wr HA.out.chg
end Go.Proofs.YtckioocahmbhkaaGreatDoor
