/- Walks: Image. -/
import Derived.Test.YtckioocahmbhkaaC1
import Derived.Outline
import Derived.IntWalk
namespace Go.Proofs.Ytckioocahmbhkaa
open Go Go.RowKit Go.Maps Go.MuLone

/-- The pages of a file's bytes. -/
def chunks (bs : List UInt8) : List (List UInt8) := (List.range (bs.length / 4096)).map fun i => (bs.drop (i * 4096)).take 4096
theorem chunks_length (bs : List UInt8) : (chunks bs).length = bs.length / 4096 := by simp [chunks]
theorem chunks_get (bs : List UInt8) (k : Nat) (h : k < bs.length / 4096) : (chunks bs)[k]? = some ((bs.drop (k * 4096)).take 4096) := by simp [chunks, h]
theorem chunk_length (bs : List UInt8) (k : Nat) (h : k < bs.length / 4096) : ((bs.drop (k * 4096)).take 4096).length = 4096 := by
  rw [List.length_take, List.length_drop]; omega
theorem chunk_get (bs : List UInt8) (k j : Nat) (x : UInt8) (h : ((bs.drop (k * 4096)).take 4096)[j]? = some x) : bs[k * 4096 + j]? = some x := by
  rw [List.getElem?_take] at h
  split at h
  · rwa [List.getElem?_drop] at h
  · cases h

def DS.image (cap : Int) (bs : List UInt8) : DS := { DS.new cap with lasting := chunks bs }
theorem DS.image_ok {cap : Int} {bs : List UInt8} (h : bs.length / 4096 ≤ 524287) : (DS.image cap bs).ok := by
  refine ⟨fun p hp => ?_, fun q hq => by simp [DS.image, DS.new] at hq, fun q hq => by simp [DS.image, DS.new] at hq, by show (chunks bs).length ≤ _; rw [chunks_length]; exact h⟩
  obtain ⟨i, hi⟩ := List.mem_iff_getElem?.1 hp
  have hlt := (List.getElem?_eq_some_iff.1 hi).1
  change i < (chunks bs).length at hlt
  rw [chunks_length] at hlt
  change (chunks bs)[i]? = some p at hi
  rw [chunks_get bs i hlt] at hi
  cases hi
  exact chunk_length bs i hlt

set_option maxRecDepth 100000 in
theorem image_few (w : World) (cap : Int) (a : Option Addr) (n c : Nat) (h : cap < 2 ∨ 524287 < cap) :
    Calls Try.prog 24 #[.int .i64 cap, .slice a n c] w fun e w' => e = .returned (.tuple #[.pointer none, .int .i64 120]) ∧ w = w' := by
  have Hh := Lib.hid h
  clear h
  go_enter Try.func24, Try.ntmps24
  go_wp2_with (go_at_call 9; refine (new_no _ _ Hh.out).mono ?_; rintro e w' ⟨rfl, rfl⟩)
  go_ret2
  exact ⟨rfl, rfl⟩

set_option maxRecDepth 100000 in
theorem image_odd (w : World) (cap : Int) (a : Option Addr) (n c : Nat) (h1 : 2 ≤ cap) (h2 : cap ≤ 524287) (hn : n ≤ reach) (h : n % 4096 ≠ 0 ∨ cap < (n / 4096 : Nat)) :
    Calls Try.prog 24 #[.int .i64 cap, .slice a n c] w fun e w' => e = .returned (.tuple #[.pointer none, .int .i64 120]) ∧ Chg (fun _ => False) w w' := by
  unfold reach at hn
  by_cases h3 : n % 4096 = 0
  · have h4 : cap < (n / 4096 : Nat) := h.resolve_left (fun e => e h3)
    have H3 : Hid (n % 4096 = 0) := Lib.hid h3
    have h5 : ((n : Int) % 4096 != 0) = false := by rw [bne_eq_false_iff_eq]; omega
    have h6 : cap < (n : Int) / 4096 := by omega
    clear h h3
    go_enter Try.func24, Try.ntmps24
    go_wp2_with (go_at_call 9; refine (new_yes _ _ h1 h2).mono ?_; rintro e w' ⟨rfl, _, hc⟩)
    go_ret2
    exact ⟨rfl, hc⟩
  · have h5 : ((n : Int) % 4096 != 0) = true := by rw [bne_iff_ne]; omega
    clear h h3
    go_enter Try.func24, Try.ntmps24
    go_wp2_with (go_at_call 9; refine (new_yes _ _ h1 h2).mono ?_; rintro e w' ⟨rfl, _, hc⟩)
    go_ret2
    exact ⟨rfl, hc⟩

/-- What one round of Image's loop leaves. -/
theorem image_round {wr w3 w1 : World} {own1 : Own} {L : Int} {b : Nat} {D : DS} {sema pv : Value} {m M lc gg cap' g1 cg1 : Nat} {la : Option Addr} {ls : List Value} {p : List UInt8}
    (h1 : DiskF wr own1 L b D sema (.slice la M lc) pv m) (hM : D.lasting.length = M) (hls : ls.length = M)
    (hlp : ∀ (i : Nat) (p : List UInt8), D.lasting[i]? = some p → ∃ v, ls[i]? = some v ∧ Buf wr own1 (.page i) v p)
    (hown : ∀ g, (Value.slice la M lc).ownBlock = some g → own1 g = some .larr)
    (hc3 : Chg (fun _ => False) wr w3) (hge1 : wr.heap.size ≤ g1) (hrow1 : w3.ownsRow 0 5 1 (.slice (some ⟨g1, 0, none⟩) p.length cg1) p.length (bVs p))
    (hown1 : w1.ownsRow 0 27 1 (.slice (some ⟨gg, 0, none⟩) (M + 1) cap') (M + 1) (ls ++ [.slice (some ⟨g1, 0, none⟩) p.length cg1]))
    (hgrow : (w3.alloc (.cells #[.slice (some ⟨g1, 0, none⟩) p.length cg1] 27)).grownBy w1 (Value.slice la M lc).ownBlock)
    (hat : (Value.slice la M lc).ownBlock = some gg ∨ gg = w3.heap.size + 1) :
    ∃ own', DiskF (w1.setCell ⟨b, 3, none⟩ (.slice (some ⟨gg, 0, none⟩) (M + 1) cap')) own' L b { D with lasting := D.lasting ++ [p] } sema (.slice (some ⟨gg, 0, none⟩) (M + 1) cap') pv m ∧
      Step wr own1 (w1.setCell ⟨b, 3, none⟩ (.slice (some ⟨gg, 0, none⟩) (M + 1) cap')) own' := by
  subst hM
  have hbl : b < wr.heap.size := h1.lt b (Own.blocks_of h1.str)
  have hlt1 : g1 < w3.heap.size := row_lt hrow1
  have hbne : (Value.slice la D.lasting.length lc).ownBlock ≠ some b := fun e => by
    have := hown b e
    rw [h1.str] at this; cases this
  have hnew : ∀ x, (Value.slice la D.lasting.length lc).ownBlock = some x → x < wr.heap.size := fun x e => h1.lt _ (Own.blocks_of (hown _ e))
  have hs3 := hc3.size
  have hggb : gg ≠ b := fun e => by
    subst e
    rcases hat with e | e
    · exact hbne e
    · omega
  have hc0 : Chg (fun _ => False) wr (w3.alloc (.cells #[.slice (some ⟨g1, 0, none⟩) p.length cg1] 27)) := hc3.alloc _
  have hc : Chg (fun k => k = b ∨ (Value.slice la D.lasting.length lc).ownBlock = some k) wr (w1.setCell ⟨b, 3, none⟩ (.slice (some ⟨gg, 0, none⟩) (D.lasting.length + 1) cap')) :=
    ((hc0.mono (fun _ f => f.elim)).grown hgrow (fun k e => .inl (.inr e))).setCell (p := ⟨b, 3, none⟩) (.inl (.inl rfl)) _
  have hpage : (w1.setCell ⟨b, 3, none⟩ (.slice (some ⟨gg, 0, none⟩) (D.lasting.length + 1) cap')).ownsRow 0 5 1 (.slice (some ⟨g1, 0, none⟩) p.length cg1) p.length (bVs p) :=
    ownsRow_chg ((hrow1.alloc _).kept hgrow (.inr (fun e => by have := hnew g1 (by simpa [Value.ownBlock] using e.symm); omega))) (chg1 (b := b) (o := 3) _) (fun g e => by simp [Value.ownBlock] at e; omega)
  have hb1 : w1.heap[b]? = wr.heap[b]? := by
    rw [hgrow.block b (Nat.lt_of_lt_of_le hbl hc0.size) (Ne.symm hbne)]
    exact hc0.block b hbl (fun f => f)
  have r := h1.grow (w' := w1.setCell ⟨b, 3, none⟩ (.slice (some ⟨gg, 0, none⟩) (D.lasting.length + 1) cap')) (g := g1) (ga := gg) (cap := cap') (capg := cg1) (p := p) hls hlp hown hge1 (hat.imp id (fun e => ⟨by omega, by omega⟩)) hc hpage
    (ownsRow_chg hown1 (chg1 (b := b) (o := 3) _) (fun g e => by simp [Value.ownBlock] at e; omega))
    (by rw [heap_setCell_same _ (hb1.trans h1.blk)]; rfl)
  obtain ⟨own', r1, r2, r3⟩ := r
  exact ⟨own', r1, r3⟩

theorem Chg.of_below {w w' : World} (h : Below w.heap.size w w') : Chg (fun _ => False) w w' := ⟨h.os, h.tape, h.output, h.size, fun k hk _ => h.block k hk⟩

/-- The disk of the first k pages. -/
def DS.imageK (cap : Int) (bs : List UInt8) (k : Nat) : DS := { DS.new cap with lasting := (chunks bs).take k }
theorem imageK_snoc (cap : Int) (bs : List UInt8) (k : Nat) (h : k < bs.length / 4096) : DS.imageK cap bs (k + 1) = { DS.imageK cap bs k with lasting := (DS.imageK cap bs k).lasting ++ [(bs.drop (k * 4096)).take 4096] } := by
  unfold DS.imageK
  rw [List.take_add_one, chunks_get bs k h]; rfl
theorem imageK_length (cap : Int) (bs : List UInt8) (k : Nat) (h : k ≤ bs.length / 4096) : (DS.imageK cap bs k).lasting.length = k := by
  show ((chunks bs).take k).length = k
  rw [List.length_take, chunks_length]; omega
theorem imageK_all (cap : Int) (bs : List UInt8) : DS.imageK cap bs (bs.length / 4096) = DS.image cap bs := by
  unfold DS.imageK DS.image
  rw [List.take_of_length_le (by rw [chunks_length]; omega)]
theorem imageK_zero (cap : Int) (bs : List UInt8) : DS.imageK cap bs 0 = DS.new cap := by
  unfold DS.imageK; rfl

/-- The disk of the first k pages lies at b, all made since w. -/
def ImAt (w wr : World) (b : Nat) (cap : Int) (bs : List UInt8) (k : Nat) : Prop := ∃ own, St w wr own b (DS.imageK cap bs k)

set_option maxRecDepth 100000 in
set_option maxHeartbeats 1600000 in
theorem image_go (w : World) (cap : Int) (a : Option Addr) (bs : List UInt8) (c : Nat) (hsee : SeesB w (.slice a bs.length c) bs) (hc0 : bs.length ≤ c) (hc1 : c ≤ maxLen) (h1 : 2 ≤ cap) (h2 : cap ≤ 524287) (h3 : bs.length % 4096 = 0) (h4 : (bs.length / 4096 : Nat) ≤ cap) :
    Calls Try.prog 24 #[.int .i64 cap, .slice a bs.length c] w fun e w' => ∃ b own, e = .returned (.tuple #[.pointer (some ⟨b, 0, none⟩), .int .i64 0]) ∧ St w w' own b (DS.image cap bs) := by
  unfold maxLen at hc1
  obtain ⟨i1, hi1, hy0, hy1, hy2⟩ := info_parts info27
  have h5 : ((bs.length : Int) % 4096 != 0) = false := by rw [bne_eq_false_iff_eq]; omega
  have h6 : ¬ cap < (bs.length : Int) / 4096 := by omega
  have H3 := Lib.hid h3
  have HS := Lib.hid hsee
  have hn : bs.length ≤ 524287 * 4096 := by omega
  clear h3 hsee
  go_enter Try.func24, Try.ntmps24
  go_wp2_with (go_at_call 9; refine (new_st (w0 := w) (Below.refl _ _) _ h1 h2).mono ?_; rintro e w1 ⟨b, own0, rfl, s1, _, _⟩; have S1 := Lib.hid s1; clear s1)
  go_loopw [7] (fun i wr => ∃ (k at' : Nat), k ≤ bs.length / 4096 ∧ at' = k * 4096 ∧ i = .int .i64 at' ∧ ImAt w wr b cap bs k) (fun i _ => bs.length - (intOf i).toNat)
  case atStart => exact ⟨0, 0, Nat.zero_le _, rfl, rfl, own0, by rw [imageK_zero]; exact S1.out⟩
  case round =>
    obtain ⟨k, at', hk, hat', rfl, own1, s2⟩ := hrel
    have Hat' := Lib.hid hat'
    have S2 := Lib.hid s2
    clear hat' s2
    by_cases hlt : at' < bs.length
    · have hk2 : k < bs.length / 4096 := by have := Hat'.out; have := H3.out; omega
      have hat2 : at' + 4096 ≤ bs.length := by have := Hat'.out; have := H3.out; omega
      have hD := S2.out.disk
      obtain ⟨sema, lv, pv, m, hF⟩ := hD
      obtain ⟨ls, hls, ⟨hla, hlo⟩, hlp⟩ := hF.last
      obtain ⟨la, lc, rfl, hlnc, hlm, hlg⟩ := ownsRow_slice hla
      have hlen := imageK_length cap bs k hk
      obtain ⟨c3, _, _⟩ := hF.fields
      have fz3 : wr.frozen? ⟨b, 3, none⟩ = false := by simp [World.frozen?, hF.blk]
      have hbl : b < wr.heap.size := hF.lt b (Own.blocks_of hF.str)
      rw [hlen] at hF hls hla hlo hlnc hlg c3
      have hbne : (Value.slice la k lc).ownBlock ≠ some b := fun e => by
        have := hlo b e
        rw [hF.str] at this; cases this
      obtain ⟨ag, ao, rfl⟩ : ∃ ag ao, a = some ⟨ag, ao, none⟩ := by
        obtain ⟨a', c', e, hn0, hcell⟩ := HS.out
        cases e
        cases a with
        | none => have := hn0 rfl; rw [this] at hlt; simp at hlt
        | some ad =>
          have := hcell ad rfl 0 _ (List.getElem?_eq_getElem (by omega))
          rw [addr_head this]; exact ⟨_, _, rfl⟩
      obtain ⟨p, hp⟩ : ∃ p, p = (bs.drop (k * 4096)).take 4096 := ⟨_, rfl⟩
      have hpl : p.length = 4096 := by rw [hp]; exact chunk_length bs k hk2
      have hS2 : Hid (∀ wx, Chg (fun _ => False) wr wx → Sees wx (.slice (some ⟨ag, ao + at', none⟩) 4096 (c - at')) p) := by
        refine Lib.hid fun wx hcx => ⟨ag, ao + at', c - at', by rw [hpl], by omega, by rw [hpl]; exact pl_reach, fun j x hx => ?_⟩
        have hj : j < 4096 := by have := (List.getElem?_eq_some_iff.1 hx).1; omega
        rw [hp] at hx
        have e1 := chunk_get bs k j x hx
        rw [← Hat'.out] at e1
        obtain ⟨a', c', e, hn0, hcell⟩ := HS.out
        cases e
        have e2 := hcell _ rfl _ x e1
        rw [addr_add, ← Nat.add_assoc] at e2
        have e3 : ag < w.heap.size := World.block_lt_of_cell? _ _ e2
        have hcw : Chg (fun _ => False) w wx := (Chg.of_below S2.out.below).trans hcx (fun _ f => f.elim)
        exact (cell_chg hcw e3 (fun f => f)).trans e2
      have Hpl := Lib.hid hpl
      have hne : Hid (p ≠ []) := Lib.hid (fun e => by have := Hpl.out; rw [e] at this; simp at this)
      have hlad : Hid (wr.drew.ownsRow 0 27 1 (.slice la k lc) k ls) := Lib.hid hla
      have c3d : Hid (wr.drew.cell? ⟨b, 3, none⟩ = some (.slice la k lc)) := Lib.hid c3
      have fz3d : Hid (wr.drew.frozen? ⟨b, 3, none⟩ = false) := Lib.hid fz3
      have hbld : Hid (b < wr.drew.heap.size) := Lib.hid hbl
      have HF := Lib.hid hF
      have Hls := Lib.hid hls
      have Hlp := Lib.hid hlp
      have Hlo := Lib.hid hlo
      have Hp := Lib.hid hp
      have Hlen := Lib.hid hlen
      have hat0 : (0 : Int) ≤ (at' : Int) := by omega
      have hat1 : (at' : Int) ≤ (at' : Int) + 4096 := by omega
      have hat3 : (at' : Int) + 4096 ≤ (c : Int) := by omega
      have hat4 : at' ≤ 524287 * 4096 := by omega
      have hwr : IntKind.i64.wrap ((at' : Int) + 4096) = (at' : Int) + 4096 := IntWalk.i64_in _ (by omega)
      have hcat : ¬ c = at' := by omega
      have htn : ((at' : Int) + 4096).toNat - at' = 4096 := by omega
      clear hF hls hla hlo hlp hlen hp hpl hbl
      go_wp2_with fail
      go_region_law
        (first
          | (refine step_append_lies _ (by rfl) _ _ _ (by rfl) 0 27 i1 _ 1 24 Try.underlying46 hi1 hy0 hy1 hy2 rfl (by omega) (.slice la k lc) k ls (by rfl) (Hrow3.out.alloc _)
              ⟨w3.heap.size, 0, none⟩ 1 1 [.slice (some ⟨g1, 0, none⟩) p.length cg1] (by rfl) (by rfl) (World.news_of_block (cs := #[.slice (some ⟨g1, 0, none⟩) p.length cg1]) (t := 27) (fr := (0, 0)) (heap_alloc_new w3 _)) (by simp [Value.oneCell'])
              (by omega) (by unfold maxLen; omega) (by omega) (Nat.zero_le _) (w3.heap.size + 1) (by simp) ?_; intro gg cap' w4 hown4 hgrow4 hat4 hlt4; have fz34 : w4.frozen? ⟨b, 3, none⟩ = false := (by rw [hgrow4.frozen_far _ (by simp; omega) (Ne.symm hbne)]; exact (((Chg.refl (fun _ => False) w3).alloc _) |> fun hc => frozen_chg hc hbl3 (fun f => f)).trans fz33); have c34 : w4.cell? ⟨b, 3, none⟩ = some (.slice la k lc) := (by rw [hgrow4.cell_far _ (by simp; omega) (Ne.symm hbne)]; exact (((Chg.refl (fun _ => False) w3).alloc _) |> fun hc => cell_chg hc hbl3 (fun f => f)).trans c33))
          | (go_simp; go_at_call 36; refine (clone_any _ _ p (hS2.out _ (Chg.refl _ _).drew) hne.out).mono ?_; rintro e w3 ⟨g1, cg1, rfl, hge1, hrow1, hc3⟩; have c33 : w3.cell? ⟨b, 3, none⟩ = some (.slice la k lc) := (cell_chg hc3 hbld.out (fun f => f)).trans c3d.out; have fz33 : w3.frozen? ⟨b, 3, none⟩ = false := (frozen_chg hc3 hbld.out (fun f => f)).trans fz3d.out; have hbl3 : b < w3.heap.size := Nat.lt_of_lt_of_le hbld.out hc3.size; have Hrow3 := Lib.hid (ownsRow_chg hlad.out hc3 (fun _ _ f => f)); have Hrow1 := Lib.hid hrow1; clear hrow1))
      all_goals
        obtain ⟨own2, r1, r2⟩ := image_round HF.out Hlen.out Hls.out Hlp.out Hlo.out ((Chg.refl (fun _ => False) wr).drew.trans hc3 (fun _ f => f.elim)) hge1 Hrow1.out hown4 hgrow4 hat4
        have R1 := Lib.hid r1
        have R2 := Lib.hid r2
        clear r1 r2 hown4 hgrow4 hat4 hc3 c33 fz33 c34 fz34
        go_wp2
        go_roundw
        case rel =>
          refine ⟨k + 1, at' + 4096, by omega, by have := Hat'.out; omega, by go_num, own2, ?_⟩
          rw [imageK_snoc cap bs k hk2, ← Hp.out]
          exact S2.out.step ⟨_, _, _, _, R1.out⟩ R2.out
        case measure => simp [intOf]; omega
    · have hk2 : k = bs.length / 4096 := by have := Hat'.out; have := H3.out; omega
      go_wp2
      go_ret2
      exact ⟨b, own1, rfl, by rw [← imageK_all, ← hk2]; exact S2.out⟩

end Go.Proofs.Ytckioocahmbhkaa
