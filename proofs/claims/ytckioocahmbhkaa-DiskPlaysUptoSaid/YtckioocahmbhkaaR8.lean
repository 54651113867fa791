/- The reference's Image. -/
import Derived.Test.YtckioocahmbhkaaR7
import Derived.IntWalk
namespace Go.Proofs.Ytckioocahmbhkaa
open Go Go.RowKit Go.Maps Go.MuLone

/-- The reference's disk D lies at b, made since w0; what was there at w0 is as it was. -/
structure StR (w0 w : World) (own : Own) (b : Nat) (D : DS) : Prop where
  disk : RefAt w own b D
  below : Below w0.heap.size w0 w
  new : ∀ k, own.blocks k → w0.heap.size ≤ k
theorem StR.lt {w0 w : World} {own : Own} {b : Nat} {D : DS} (h : StR w0 w own b D) {k : Nat} (hk : own.blocks k) : k < w.heap.size := by
  obtain ⟨_, _, hF⟩ := h.disk
  exact hF.lt k hk
theorem StR.str {w0 w : World} {own : Own} {b : Nat} {D : DS} (h : StR w0 w own b D) : own b = some .str := h.disk.str
theorem StR.step {w0 w w' : World} {own own' : Own} {b : Nat} {D D' : DS} (h : StR w0 w own b D) (hD : RefAt w' own' b D') (hst : Step w own w' own') : StR w0 w' own' b D' :=
  ⟨hD, (hst.below h.below h.new).1, (hst.below h.below h.new).2⟩
theorem StR.other {w0 w w' : World} {own : Own} {b : Nat} {D : DS} {S : Nat → Prop} (h : StR w0 w own b D) (hc : Chg S w w') (hs : ∀ k, S k → ¬ own.blocks k ∧ w0.heap.size ≤ k) : StR w0 w' own b D :=
  ⟨h.disk.chg hc (fun g hg e => (hs g e).1 hg), hc.below' h.below (fun k hk => (hs k hk).2), h.new⟩
theorem StR.free {w0 w : World} {own : Own} {b : Nat} {D : DS} (h : StR w0 w own b D) {g : Nat} (hg : w.heap.size ≤ g) : ¬ own.blocks g := fun e => by have := h.lt e; omega

set_option maxRecDepth 100000 in
theorem rimage_few (w : World) (cap : Int) (a : Option Addr) (n c : Nat) (h : cap < 2 ∨ 524287 < cap) :
    Calls Try.prog 29 #[.int .i64 cap, .slice a n c] w fun e w' => e = .returned (.tuple #[.pointer none, .int .i64 120]) ∧ w = w' := by
  have Hh := Lib.hid h
  clear h
  go_enter Try.func29, Try.ntmps29
  go_wp2_with (go_at_call 39; refine (rnew_no _ _ Hh.out).mono ?_; rintro e w' ⟨rfl, rfl⟩)
  go_ret2
  exact ⟨rfl, rfl⟩

set_option maxRecDepth 100000 in
theorem rimage_odd (w : World) (cap : Int) (a : Option Addr) (n c : Nat) (h1 : 2 ≤ cap) (h2 : cap ≤ 524287) (hn : n ≤ reach) (h : n % 4096 ≠ 0 ∨ cap < (n / 4096 : Nat)) :
    Calls Try.prog 29 #[.int .i64 cap, .slice a n c] w fun e w' => e = .returned (.tuple #[.pointer none, .int .i64 120]) ∧ Chg (fun _ => False) w w' := by
  unfold reach at hn
  by_cases h3 : n % 4096 = 0
  · have h4 : cap < (n / 4096 : Nat) := h.resolve_left (fun e => e h3)
    have h5 : ((n : Int) % 4096 != 0) = false := by rw [bne_eq_false_iff_eq]; omega
    have h6 : cap < (n : Int) / 4096 := by omega
    clear h h3
    go_enter Try.func29, Try.ntmps29
    go_wp2_with (go_at_call 39; refine (rnew_yes _ _ h1 h2).mono ?_; rintro e w' ⟨rfl, _, hc⟩)
    go_ret2
    exact ⟨rfl, hc⟩
  · have h5 : ((n : Int) % 4096 != 0) = true := by rw [bne_iff_ne]; omega
    clear h h3
    go_enter Try.func29, Try.ntmps29
    go_wp2_with (go_at_call 39; refine (rnew_yes _ _ h1 h2).mono ?_; rintro e w' ⟨rfl, _, hc⟩)
    go_ret2
    exact ⟨rfl, hc⟩

/-- What one round leaves. -/
theorem ri_round {wr w3 w1 : World} {own1 : Own} {b : Nat} {D : DS} {pv : Value} {M lc gg cap' g1 cg1 : Nat} {la : Option Addr} {ls : List Value} {p : List UInt8}
    (h1 : RefF wr own1 b D (.slice la M lc) pv) (hM : D.lasting.length = M) (hls : ls.length = M)
    (hlp : ∀ (i : Nat) (p : List UInt8), D.lasting[i]? = some p → ∃ v, ls[i]? = some v ∧ Buf wr own1 (.page i) v p)
    (hown : ∀ g, (Value.slice la M lc).ownBlock = some g → own1 g = some .larr)
    (hc3 : Chg (fun _ => False) wr w3) (hge1 : wr.heap.size ≤ g1) (hrow1 : w3.ownsRow 0 5 1 (.slice (some ⟨g1, 0, none⟩) p.length cg1) p.length (bVs p))
    (hown1 : w1.ownsRow 0 27 1 (.slice (some ⟨gg, 0, none⟩) (M + 1) cap') (M + 1) (ls ++ [.slice (some ⟨g1, 0, none⟩) p.length cg1]))
    (hgrow : (w3.alloc (.cells #[.slice (some ⟨g1, 0, none⟩) p.length cg1] 27)).grownBy w1 (Value.slice la M lc).ownBlock)
    (hat : (Value.slice la M lc).ownBlock = some gg ∨ gg = w3.heap.size + 1) :
    ∃ own', RefF (w1.setCell ⟨b, 1, none⟩ (.slice (some ⟨gg, 0, none⟩) (M + 1) cap')) own' b (D.more (D.lasting ++ [p])) (.slice (some ⟨gg, 0, none⟩) (M + 1) cap') pv ∧
      Step wr own1 (w1.setCell ⟨b, 1, none⟩ (.slice (some ⟨gg, 0, none⟩) (M + 1) cap')) own' := by
  subst hM
  have hbl : b < wr.heap.size := h1.lt b (Own.blocks_of h1.str)
  have hlt1 : g1 < w3.heap.size := row_lt hrow1
  have hbne : (Value.slice la D.lasting.length lc).ownBlock ≠ some b := fun e => by
    have := hown b e
    rw [h1.str] at this; cases this
  have hnew : ∀ x, (Value.slice la D.lasting.length lc).ownBlock = some x → x < wr.heap.size := fun x e => h1.lt _ (Own.blocks_of (hown _ e))
  have hs3 := hc3.size
  have hggb : gg ≠ b := fun e => by
    subst e
    rcases hat with e | e
    · exact hbne e
    · omega
  have hc0 : Chg (fun _ => False) wr (w3.alloc (.cells #[.slice (some ⟨g1, 0, none⟩) p.length cg1] 27)) := hc3.alloc _
  have hc : Chg (fun k => k = b ∨ (Value.slice la D.lasting.length lc).ownBlock = some k) wr (w1.setCell ⟨b, 1, none⟩ (.slice (some ⟨gg, 0, none⟩) (D.lasting.length + 1) cap')) :=
    ((hc0.mono (fun _ f => f.elim)).grown hgrow (fun k e => .inl (.inr e))).setCell (p := ⟨b, 1, none⟩) (.inl (.inl rfl)) _
  have hpage : (w1.setCell ⟨b, 1, none⟩ (.slice (some ⟨gg, 0, none⟩) (D.lasting.length + 1) cap')).ownsRow 0 5 1 (.slice (some ⟨g1, 0, none⟩) p.length cg1) p.length (bVs p) :=
    ownsRow_chg ((hrow1.alloc _).kept hgrow (.inr (fun e => by have := hnew g1 (by simpa [Value.ownBlock] using e.symm); omega))) (chg1 (b := b) (o := 1) _) (fun g e => by simp [Value.ownBlock] at e; omega)
  have hb1 : w1.heap[b]? = wr.heap[b]? := by
    rw [hgrow.block b (Nat.lt_of_lt_of_le hbl hc0.size) (Ne.symm hbne)]
    exact hc0.block b hbl (fun f => f)
  obtain ⟨own', e1, e2, e3, e4⟩ := own_two (own := own1) (g := g1) (ga := gg) (r := .page D.lasting.length) (ra := .larr) (fun e => by have := h1.lt _ e; omega)
    (hat.imp (fun e => hown _ e) (fun e => ⟨fun e2 => by have := h1.lt _ e2; omega, by omega⟩))
  refine ⟨own', h1.grow hls hlp hown e1 e2 e3 e4 hc hpage (ownsRow_chg hown1 (chg1 (b := b) (o := 1) _) (fun g e => by simp [Value.ownBlock] at e; omega)) (by rw [heap_setCell_same _ (hb1.trans h1.blk)]; rfl), hc.mono (fun x hx => ?_), fun x hx => ?_⟩
  · rcases hx with e | e
    · subst e; exact Own.blocks_of h1.str
    · exact Own.blocks_of (hown _ e)
  · rcases e4 x hx with e | e | e
    · exact .inl e
    · subst e; exact .inr hge1
    · subst e
      rcases hat with e | e
      · exact .inl (Own.blocks_of (hown _ e))
      · exact .inr (by omega)

set_option maxRecDepth 100000 in
set_option maxHeartbeats 4000000 in
theorem ri_loop {Q0 : Exit → Act → World → Prop} {s0 s2 s3 s4 s5 s8 s9 s10 s11 s12 s13 s14 s15 s16 s17 s18 s19 s20 s21 s22 s23 s24 s25 s26 s27 s28 s29 s30 s31 s32 s33 s34 s35 s36 s37 s38 s39 s40 s41 s42 s43 s44 s45 s46 s47 s48 : Value} (w0 w : World) (own : Own) (b : Nat) (cap : Int) (hS : StR w0 w own b (DS.new cap)) (a : Option Addr) (bs : List UInt8) (c : Nat) (hsee : SeesB w0 (.slice a bs.length c) bs) (hc0 : bs.length ≤ c) (hc1 : c ≤ maxLen) (h3 : bs.length % 4096 = 0) (hn : bs.length ≤ 524287 * 4096)
    (hexit : ∀ ⦃u7 u8 u26 u27 u28 u29 u30 u31 u32 u33 u34 u35 u36 u37 u38 u39 u40 u41 u42 u43 u44 u45 u46 u47 : Value⦄ (w' : World), (∃ own', StR w0 w' own' b (DS.image cap bs)) → Q0 .normal ⟨List.toArray (s0 :: .slice a bs.length c :: s2 :: s3 :: s4 :: s5 :: .pointer (some ⟨b, 0, none⟩) :: u7 :: u8 :: s9 :: s10 :: s11 :: s12 :: s13 :: s14 :: s15 :: s16 :: s17 :: s18 :: s19 :: s20 :: s21 :: s22 :: s23 :: s24 :: s25 :: u26 :: u27 :: u28 :: u29 :: u30 :: u31 :: u32 :: u33 :: u34 :: u35 :: u36 :: u37 :: u38 :: u39 :: u40 :: u41 :: u42 :: u43 :: u44 :: u45 :: u46 :: u47 :: s48 :: []), []⟩ w') :
    Code.wp Try.prog (blk 0 Try.f29) Q0 ⟨List.toArray (s0 :: .slice a bs.length c :: s2 :: s3 :: s4 :: s5 :: .pointer (some ⟨b, 0, none⟩) :: .int .i64 0 :: s8 :: s9 :: s10 :: s11 :: s12 :: s13 :: s14 :: s15 :: s16 :: s17 :: s18 :: s19 :: s20 :: s21 :: s22 :: s23 :: s24 :: s25 :: s26 :: s27 :: s28 :: s29 :: s30 :: s31 :: s32 :: s33 :: s34 :: s35 :: s36 :: s37 :: s38 :: s39 :: s40 :: s41 :: s42 :: s43 :: s44 :: s45 :: s46 :: s47 :: s48 :: []), []⟩ w := by
  unfold maxLen at hc1
  have HX := Lib.hid hexit
  have HS0 := Lib.hid hS
  have HS := Lib.hid hsee
  have H3 := Lib.hid h3
  obtain ⟨i1, hi1, hy0, hy1, hy2⟩ := info_parts info27
  clear hexit hS hsee h3
  conv => arg 2; whnf
  go_wp2_with fail
  go_loopg [7] bs.length (fun gm i wr => ∃ (k at' : Nat) (own' : Own), k ≤ bs.length / 4096 ∧ at' = k * 4096 ∧ gm = bs.length - at' ∧ i = .int .i64 at' ∧ StR w0 wr own' b (DS.imageK cap bs k))
  case atStart => exact ⟨0, 0, own, Nat.zero_le _, rfl, rfl, rfl, by rw [imageK_zero]; exact HS0.out⟩
  case round =>
    obtain ⟨k, at', own1, hk, hat', hg, rfl, s2⟩ := hrel
    have Hat' := Lib.hid hat'
    have S2 := Lib.hid s2
    have Hg := Lib.hid hg
    clear hat' s2 hg
    by_cases hlt : at' < bs.length
    · have hk2 : k < bs.length / 4096 := by have := Hat'.out; have := H3.out; omega
      have hat2 : at' + 4096 ≤ bs.length := by have := Hat'.out; have := H3.out; omega
      have hD := S2.out.disk
      obtain ⟨lv, pv, hF⟩ := hD
      obtain ⟨ls, hls, ⟨hla, hlo⟩, hlp⟩ := hF.last
      obtain ⟨la, lc, rfl, hlnc, hlm, hlg⟩ := ownsRow_slice hla
      have hlen := imageK_length cap bs k hk
      obtain ⟨c1, _⟩ := hF.fields
      have fz1 : wr.frozen? ⟨b, 1, none⟩ = false := by simp [World.frozen?, hF.blk]
      have hbl : b < wr.heap.size := hF.lt b (Own.blocks_of hF.str)
      rw [hlen] at hF hls hla hlo hlnc hlg c1
      have hbne : (Value.slice la k lc).ownBlock ≠ some b := fun e => by
        have := hlo b e
        rw [hF.str] at this; cases this
      obtain ⟨ag, ao, rfl⟩ : ∃ ag ao, a = some ⟨ag, ao, none⟩ := by
        obtain ⟨a', c', e, hn0, hcell⟩ := HS.out
        cases e
        cases a with
        | none => have := hn0 rfl; rw [this] at hlt; simp at hlt
        | some ad =>
          have := hcell ad rfl 0 _ (List.getElem?_eq_getElem (by omega))
          rw [addr_head this]; exact ⟨_, _, rfl⟩
      obtain ⟨p, hp⟩ : ∃ p, p = (bs.drop (k * 4096)).take 4096 := ⟨_, rfl⟩
      have hpl : p.length = 4096 := by rw [hp]; exact chunk_length bs k hk2
      have hS2 : Hid (SeesB wr (.slice (some ⟨ag, ao + at', none⟩) 4096 (c - at')) p) := by
        refine Lib.hid ⟨_, _, by rw [hpl], fun e => (by cases e), fun ad e j x hx => ?_⟩
        cases e
        rw [hp] at hx
        have e1 := chunk_get bs k j x hx
        rw [← Hat'.out] at e1
        obtain ⟨a', c', e, hn0, hcell⟩ := HS.out
        cases e
        have e2 := hcell _ rfl _ x e1
        rw [addr_add, ← Nat.add_assoc] at e2
        have e3 : ag < w0.heap.size := World.block_lt_of_cell? _ _ e2
        rw [addr_add]
        exact (cell_chg (Chg.of_below S2.out.below) e3 (fun f => f)).trans e2
      have Hpl := Lib.hid hpl
      have HF := Lib.hid hF
      have Hls := Lib.hid hls
      have Hlp := Lib.hid hlp
      have Hlo := Lib.hid hlo
      have Hla := Lib.hid hla
      have Hp := Lib.hid hp
      have Hlen := Lib.hid hlen
      have hat0 : (0 : Int) ≤ (at' : Int) := by omega
      have hat1 : (at' : Int) ≤ (at' : Int) + 4096 := by omega
      have hat3 : (at' : Int) + 4096 ≤ (c : Int) := by omega
      have hat4 : at' ≤ 524287 * 4096 := by omega
      have hwr : IntKind.i64.wrap ((at' : Int) + 4096) = (at' : Int) + 4096 := IntWalk.i64_in _ (by omega)
      have hcat : ¬ c = at' := by omega
      have htn : ((at' : Int) + 4096).toNat - at' = 4096 := by omega
      clear hF hls hla hlo hlp hlen hp hpl
      go_wp2_with fail
      refine (bytes_any _ _ p (by have h := hS2.out; exact h) (by rw [Hpl.out]; omega)).mono ?_
      rintro e w3 ⟨g1, cg1, rfl, hge1, hrow1, hc3⟩
      have c13 : w3.cell? ⟨b, 1, none⟩ = some (.slice la k lc) := (cell_chg hc3 hbl (fun f => f)).trans c1
      have fz13 : w3.frozen? ⟨b, 1, none⟩ = false := (frozen_chg hc3 hbl (fun f => f)).trans fz1
      have hbl3 : b < w3.heap.size := Nat.lt_of_lt_of_le hbl hc3.size
      have Hrow3 := Lib.hid (ownsRow_chg Hla.out hc3 (fun _ _ f => f))
      have Hrow1 := Lib.hid hrow1
      have Hc3 := Lib.hid hc3
      clear hrow1 hc3 c1 fz1
      go_wp2_with (at_builtin; refine wpList_append_lies _ rfl _ _ _ rfl 0 27 i1 _ 1 24 Try.underlying46 hi1 hy0 hy1 hy2 rfl (by omega) (.slice la k lc) k ls (by rfl) (Hrow3.out.alloc _) ⟨w3.heap.size, 0, none⟩ 1 1 [.slice (some ⟨g1, 0, none⟩) p.length cg1] (by rfl) (by rfl) (World.news_of_block (cs := #[.slice (some ⟨g1, 0, none⟩) p.length cg1]) (t := 27) (fr := (0, 0)) (heap_alloc_new w3 _)) (by simp [Value.oneCell']) (by omega) (by unfold maxLen; omega) (by omega) (Nat.zero_le _) (w3.heap.size + 1) (by simp) ?_; intro gg cap' w4 hown4 hgrow4 hat5 hlt4; have fz14 : w4.frozen? ⟨b, 1, none⟩ = false := (by rw [hgrow4.frozen_far _ (by simp; omega) (Ne.symm hbne)]; exact (((Chg.refl (fun _ => False) w3).alloc _) |> fun hc => frozen_chg hc hbl3 (fun f => f)).trans fz13); have c14 : w4.cell? ⟨b, 1, none⟩ = some (.slice la k lc) := (by rw [hgrow4.cell_far _ (by simp; omega) (Ne.symm hbne)]; exact (((Chg.refl (fun _ => False) w3).alloc _) |> fun hc => cell_chg hc hbl3 (fun f => f)).trans c13))
      obtain ⟨own2, r1, r2⟩ := ri_round HF.out Hlen.out Hls.out Hlp.out Hlo.out Hc3.out hge1 Hrow1.out hown4 hgrow4 hat5
      go_roundg (bs.length - (at' + 4096))
      case measure => have := Hg.out; omega
      case rel =>
        refine ⟨k + 1, at' + 4096, own2, by omega, by have := Hat'.out; omega, rfl, by go_num, ?_⟩
        rw [imageK_snoc cap bs k hk2, ← Hp.out]
        exact S2.out.step ⟨_, _, r1⟩ r2
    · have hk2 : k = bs.length / 4096 := by have := Hat'.out; have := H3.out; omega
      have Hk2 := Lib.hid hk2
      clear hk2
      go_wp2_with fail
      exact HX.out _ ⟨own1, by rw [← imageK_all, ← Hk2.out]; exact S2.out⟩

set_option maxRecDepth 100000 in
theorem rimage_go (w : World) (cap : Int) (a : Option Addr) (bs : List UInt8) (c : Nat) (hsee : SeesB w (.slice a bs.length c) bs) (hc0 : bs.length ≤ c) (hc1 : c ≤ maxLen) (h1 : 2 ≤ cap) (h2 : cap ≤ 524287) (h3 : bs.length % 4096 = 0) (h4 : (bs.length / 4096 : Nat) ≤ cap) :
    Calls Try.prog 29 #[.int .i64 cap, .slice a bs.length c] w fun e w' => ∃ b own, e = .returned (.tuple #[.pointer (some ⟨b, 0, none⟩), .int .i64 0]) ∧ StR w w' own b (DS.image cap bs) := by
  have h5 : ((bs.length : Int) % 4096 != 0) = false := by rw [bne_eq_false_iff_eq]; omega
  have h6 : ¬ cap < (bs.length : Int) / 4096 := by omega
  have H3 := Lib.hid h3
  have HS := Lib.hid hsee
  have hn : bs.length ≤ 524287 * 4096 := by omega
  clear h3 hsee
  go_enter Try.func29, Try.ntmps29
  go_upto_block 0 with (go_at_call 39; refine (rnew_yes _ _ h1 h2).mono ?_; rintro e w1 ⟨rfl, hR, hc⟩)
  refine ri_loop w w1 (ownR0 w.heap.size) w.heap.size cap ⟨hR, hc.toBelow (fun _ f => f.elim), fun k hk => by rw [ownR0_blocks hk]; exact Nat.le_refl _⟩ a bs c HS.out hc0 hc1 H3.out hn ?_
  intro u7 u8 u26 u27 u28 u29 u30 u31 u32 u33 u34 u35 u36 u37 u38 u39 u40 u41 u42 u43 u44 u45 u46 u47 w2 h2'
  obtain ⟨own', hS'⟩ := h2'
  go_wp2_with fail
  go_ret2
  exact ⟨_, own', rfl, hS'⟩

end Go.Proofs.Ytckioocahmbhkaa
