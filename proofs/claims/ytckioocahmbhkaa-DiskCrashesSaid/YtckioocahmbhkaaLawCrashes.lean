/- The statement DiskCrashes: for every list of bytes, of writes and of fates the law DiskCrashes returns true, on every run: each byte behind a Crash is what the fates leave, in order; then the disk is like one that is made of what lasts. No condition. -/
import Derived.Test.YtckioocahmbhkaaRows
import Derived.Test.YtckioocahmbhkaaC10
import Derived.WalkKit
import Derived.ProofKit
import Derived.OpenShut
import Derived.SizedLaws
import Derived.Outline
import Derived.Deep.DeepCutAuto
import Derived.Deep.LoopGhost
import Derived.Deep.CutBlock
namespace Go.Proofs.Ytckioocahmbhkaa.diskCrashes
open Go Go.RowKit Go.Maps Go.MuLone
open Go.ChangeShapes Go.WideShapes Go.ChangeAt
set_option linter.unusedVariables false

theorem own : ownKnob Try.prog.godebug = none := by kernel_rfl
theorem laidOut : laidOutB Try.prog = true := by kernel_rfl

theorem seesB_below {w w' : World} {v : Value} {bs : List UInt8} (h : SeesB w v bs) (hb : Below w.heap.size w w') : SeesB w' v bs := by
  obtain ⟨a, cap, rfl, h1, h2⟩ := h
  refine ⟨a, cap, rfl, h1, fun ad e j x hx => ?_⟩
  have := h2 ad e j x hx
  exact (hb.cell (World.block_lt_of_cell? _ _ this)).trans this
theorem putsA_below {w w' : World} {v : Value} {ps : List (Int × UInt8)} (h : PutsA w v ps) (hb : Below w.heap.size w w') : PutsA w' v ps := by
  obtain ⟨a, cap, rfl, h1, h2⟩ := h
  refine ⟨a, cap, rfl, h1, fun hp => ?_⟩
  obtain ⟨g, o, e, hc⟩ := h2 hp
  refine ⟨g, o, e, fun i x hx => ?_⟩
  obtain ⟨k1, k2⟩ := hc i x hx
  exact ⟨(hb.cell (p := ⟨g, o + i * 2, none⟩) (World.block_lt_of_cell? _ _ k1)).trans k1, (hb.cell (p := ⟨g, o + i * 2 + 1, none⟩) (World.block_lt_of_cell? _ _ k2)).trans k2⟩
theorem fatesA_below {w w' : World} {v : Value} {ps : List (Int × Int)} (h : FatesA w v ps) (hb : Below w.heap.size w w') : FatesA w' v ps := by
  obtain ⟨a, cap, rfl, h1, h2⟩ := h
  refine ⟨a, cap, rfl, h1, fun hp => ?_⟩
  obtain ⟨g, o, e, hc⟩ := h2 hp
  refine ⟨g, o, e, fun i x hx => ?_⟩
  obtain ⟨k1, k2⟩ := hc i x hx
  exact ⟨(hb.cell (p := ⟨g, o + i * 2, none⟩) (World.block_lt_of_cell? _ _ k1)).trans k1, (hb.cell (p := ⟨g, o + i * 2 + 1, none⟩) (World.block_lt_of_cell? _ _ k2)).trans k2⟩

theorem seesF_new {w0 w w' : World} {own : Own} {b : Nat} {D : DS} (hS : St w0 w own b D) {a : Option Addr} {cap : Nat} {fs : List (Int × Int)} (hn : New w w' 49 2 (.slice a fs.length cap) fs.length (fcells fs)) (hl : fs.length * 16 ≤ 140737488351232) :
    SeesF w' own (.slice a fs.length cap) fs := by
  refine ⟨a, cap, rfl, by unfold reach; omega, fun hp => ?_⟩
  obtain ⟨_, _, e, _, _, hg⟩ := ownsRow_slice hn.1
  cases e
  obtain ⟨g, rfl⟩ := hg hp
  refine ⟨g, rfl, hS.free (hn.2 g rfl), fun i f hf => ?_⟩
  obtain ⟨e1, e2⟩ := fcells_get fs i f hf
  have hi := (List.getElem?_eq_some_iff.1 hf).1
  have hl2 := fcells_length fs
  exact ⟨(hn.1.cellAt (i * 2) (by omega)).trans e1, (hn.1.cellAt (i * 2 + 1) (by omega)).trans e2⟩

set_option maxRecDepth 100000 in
set_option maxHeartbeats 16000000 in
theorem walk (v0 v1 v2 : Value) (bs : List UInt8) (ps : List (Int × UInt8)) (fs : List (Int × Int)) (w : World) (h0 : SeesB w v0 bs) (hbl : bs.length ≤ 140737488351232) (h1 : PutsA w v1 ps) (h2 : FatesA w v2 fs) :
    Calls Try.prog 5 #[v0, v1, v2] w fun e w' => e = .returned (.bool true) ∧ Below w.heap.size w w' := by
  have H0 := Lib.hid h0
  have H1 := Lib.hid h1
  have H2 := Lib.hid h2
  obtain ⟨a0, c0, rfl, _⟩ := h0
  obtain ⟨a1, c1, rfl, _⟩ := h1
  obtain ⟨a2, c2, rfl, hfl, _⟩ := h2
  go_enter Try.func5, Try.ntmps5
  go_wp2_with (go_at_call 8; refine (first_any _).mono ?_; rintro e w1 ⟨rfl, b1⟩)
  refine (new_st b1 60 (by omega) (by omega)).mono ?_
  rintro e w2 ⟨b, own, rfl, s2, _, _⟩
  have S2 := Lib.hid s2
  clear s2 b1
  go_upto_block 0 with fail
  refine dc_loop1 w w2 b a0 c0 bs H0.out hbl ⟨own, _, _, S2.out, L_new 60, Bo.nil _ _ _⟩ ?_
  intro u6 u9 u10 u11 u12 u41 u42 u43 u44 u45 u46 u47 u48 u49 u50 u51 u52 u53 u54 u55 u56 u57 u58 u59 u60 u61 u62 u63 u64 u65 u66 u67 u68 u69 u70 w3 h3
  obtain ⟨L, hL⟩ : ∃ L, L = bookP (bs.take 20) := ⟨_, rfl⟩
  rw [← hL] at h3
  have hLl : L.length ≤ 20 := by rw [hL, bookP_length, List.length_take]; omega
  have hLp : ∀ p ∈ L, p.length = 4096 := by
    intro p hp
    rw [hL] at hp
    obtain ⟨x, _, rfl⟩ := List.mem_map.1 hp
    exact rep_length _ _
  obtain ⟨own3, D3, bown3, s3, l3, bo3⟩ := h3
  obtain ⟨ba, bc, rfl⟩ := bo3.form
  obtain ⟨D4, hD4, hC4⟩ := C_start l3 hLl
  have S3 := Lib.hid s3
  have L3 := Lib.hid l3
  have Bo3 := Lib.hid bo3
  have HLp := Lib.hid hLp
  have HD4 := Lib.hid hD4
  have C4 := Lib.hid hC4
  clear S2 hL hLp s3 l3 bo3 hD4 hC4
  go_upto_block 2 with (go_at_call 13; refine (sync_st S3.out L3.out.ok HD4.out).mono ?_; rintro e w4 ⟨rfl, own4, s4, t4⟩; have S4 := Lib.hid s4; have Bo4 := Lib.hid (Bo3.out.step t4); clear s4 t4)
  refine dc_loop2 w w4 b a1 c1 ps H1.out _ L ⟨own4, D4, bown3, S4.out, C4.out, Bo4.out, Dn.nil _ _ _ _⟩ ?_
  intro u6 u13 u15 u16 u17 u76 u77 u78 u79 u80 u81 u82 u83 u84 u85 u86 u87 u88 u89 u90 u91 u92 u93 u94 u95 u96 u97 u98 u99 u100 u101 u102 u103 u104 u105 u106 u107 u108 u109 u110 u111 u112 u113 u114 u115 u116 u117 u118 u119 u120 u121 u122 u123 u124 u125 u126 u127 u128 u129 u130 u131 u132 u133 u134 w5 h5
  obtain ⟨dn, pg, k, hk, own5, D5, bown5, s5, c5, bo5, dn5⟩ := h5
  obtain ⟨da, dc, rfl⟩ := dn5.1
  obtain ⟨D6, hD6, e1, e2, e3, e4, e5, e6⟩ := C_crash c5 hk fs
  have hdn : dn.length ≤ 20 := by have := c5.pn; omega
  have hI : ∀ q ∈ dn, q.1 < 40 := fun q hq => by have := c5.no q hq; have := c5.few; omega
  have S5 := Lib.hid s5
  have C5 := Lib.hid c5
  have Bo5 := Lib.hid bo5
  have Dn5 := Lib.hid dn5
  have HD6 := Lib.hid hD6
  have R6 : Hid (RInv D6 (bookF L dn fs)) := Lib.hid ⟨e3, e4, e2, e1⟩
  have HI := Lib.hid hI
  clear S3 L3 Bo3 HD4 C4 S4 Bo4 s5 c5 bo5 dn5 hD6 e1 e2 e3 e4 e5 hI
  have HF5 := Lib.hid (fatesA_below H2.out S5.out.below)
  go_upto_block 4 with (first
    | (go_at_call 22; refine (fates_any _ _ _ HF5.out).mono ?_; rintro e w6 ⟨fa, fc, rfl, n6, hc6⟩; have HSF := Lib.hid (seesF_new S5.out n6 hfl); have S6 := Lib.hid (S5.out.other hc6 (fun _ f => f.elim)); have Bo6 := Lib.hid (Bo5.out.chg hc6 (fun _ _ f => f)); have Dn6 := Lib.hid (Dn5.out.chg hc6 (fun _ _ f => f)); clear n6 hc6)
    | (go_at_call 21; refine (crash_st S6.out C5.out.ok _ fs HSF.out HD6.out).mono ?_; rintro e w7 ⟨rfl, own7, s7, t7⟩; have S7 := Lib.hid s7; have Bo7 := Lib.hid (Bo6.out.step t7); have Dn7 := Lib.hid (Dn6.out.step t7); clear s7 t7))
  refine dc_loop3 w w7 b D6 a2 c2 fs H2.out _ L da dc dn ⟨own7, bown5, S7.out, Bo7.out, Dn7.out⟩ hdn HI.out (by omega) HLp.out ?_
  intro u9 u18 u19 u20 u21 u139 u140 u141 u142 u143 u144 u145 u146 u147 u148 u149 u150 u151 u152 u153 u154 u155 u156 u157 u158 u159 u160 u161 u162 u163 u164 u165 u166 u167 u168 u169 u170 u171 u172 u173 u174 u175 u176 u177 u178 u179 u180 u181 u182 u183 u184 u185 u186 u187 u188 u189 u190 u191 u192 u193 u194 u195 u196 u197 u198 u199 u200 u201 u202 u203 u204 w8 h8
  obtain ⟨B, hB⟩ : ∃ B, B = bookF L dn fs := ⟨_, rfl⟩
  rw [← hB] at h8 R6 e6
  obtain ⟨own8, bown8, s8, bo8, _⟩ := h8
  obtain ⟨ba8, bc8, rfl⟩ := bo8.form
  have S8 := Lib.hid s8
  have Bo8 := Lib.hid bo8
  have hBp : Hid (∀ p ∈ B, p.length = 4096) := Lib.hid (by have := R6.out.ok.page; rw [R6.out.lasting] at this; exact this)
  clear S5 C5 Bo5 Dn5 HD6 HI HF5 S6 Bo6 Dn6 HSF S7 Bo7 Dn7 s8 bo8 hB
  go_upto_block 10 with fail
  refine dc_loop4 w w8 b D6 _ B ⟨own8, bown8, S8.out, Bo8.out, Al.nil _ _ _ _⟩ e6 hBp.out ?_
  intro u22 u23 u205 u206 u207 u208 u209 u210 u211 u212 u213 u214 u215 u216 w9 h9
  obtain ⟨own9, bown9, s9, bo9, al9⟩ := h9
  obtain ⟨aa, ac, rfl⟩ := al9.1
  have S9 := Lib.hid s9
  have Al9 := Lib.hid al9
  have HFl : Hid (D6.lasting.flatten = B.flatten) := Lib.hid (by rw [R6.out.lasting])
  have hfl6 : B.flatten.length = B.length * 4096 := flatten_len B hBp.out
  have Hfl6 := Lib.hid hfl6
  have HP6 : Hid (D6.pages = B.length) := Lib.hid R6.out.pages
  have HQ6 : Hid (D6.pending.length = 0) := Lib.hid (by rw [R6.out.pending]; rfl)
  obtain ⟨bl, hbl2⟩ : ∃ bl, bl = B.flatten := ⟨_, rfl⟩
  rw [← hbl2] at Al9 HFl Hfl6 ⊢
  have HB2 := Lib.hid hbl2
  have hbll : bl.length ≤ 40 * 4096 := by rw [Hfl6.out]; omega
  clear S8 Bo8 s9 bo9 al9 hfl6 hbl2
  go_wp2_with fail
  refine (durable_st S9.out R6.out.ok HFl.out).mono ?_
  rintro e w10 ⟨ra, rc, rfl, rh, s10, t10⟩
  have S10 := Lib.hid s10
  have hx1 := SeesB.of_row rh.1
  have hx2 := SeesB.of_row (Al9.out.step t10).2.1
  have HSame := Lib.hid (same_yes _ _ _ bl hx1 hx2)
  have HX1 := Lib.hid hx1
  obtain ⟨_, _, es, hc0, hc1, _⟩ := ownsRow_slice rh.1
  cases es
  clear S9 s10 t10 rh hx1 hx2
  go_wp2_with fail
  refine HSame.out.mono ?_
  rintro e w' ⟨rfl, rfl⟩
  go_wp2_with fail
  refine (image_go w10 60 ra bl rc HX1.out hc0 hc1 (by omega) (by omega) (by rw [Hfl6.out]; omega) (by rw [Hfl6.out]; omega)).mono ?_
  rintro e w11 ⟨b2, own2, rfl, s11⟩
  have S2 : Hid (St w w11 own2 b2 (DS.image 60 bl)) := Lib.hid ⟨s11.disk, S10.out.below.trans (s11.below.mono S10.out.below.size), fun k hk => Nat.le_trans S10.out.below.size (s11.new k hk)⟩
  have S11 := Lib.hid (S10.out.other (Chg.of_below s11.below) (fun _ f => f.elim))
  have HDis : Hid (∀ k, own9.blocks k → ¬ own2.blocks k) := Lib.hid fun k h1 h2 => by have := S10.out.lt h1; have := s11.new k h2; omega
  have R2 : Hid (RInv (DS.image 60 bl) B) := Lib.hid ⟨DS.image_ok (by rw [Hfl6.out]; omega), rfl, rfl, by rw [HB2.out]; exact chunks_flat B hBp.out⟩
  have HP2 : Hid ((DS.image 60 bl).pages = B.length) := Lib.hid R2.out.pages
  clear s11 S10 HX1 hc0 hc1 HSame
  go_wp2_with (first
    | (go_at_call 12; refine (num_any _ _).mono ?_; rintro e w' ⟨rfl, rfl⟩)
    | (go_at_call 14; refine (pendlen_st S11.out R6.out.ok HQ6.out (by omega)).mono ?_; rintro e w12 ⟨qa, qc, rfl, s12, t12⟩; have S12 := Lib.hid s12; have S2' := Lib.hid (S2.out.other t12.chg (fun x hx => ⟨HDis.out x hx, S11.out.new x hx⟩)); clear s12 t12))
  refine (pages_st S12.out R6.out.ok HP6.out).mono ?_
  rintro e w13 ⟨rfl, s13, t13⟩
  have S13 := Lib.hid s13
  have S2'' := Lib.hid (S2'.out.other t13.chg (fun x hx => ⟨HDis.out x hx, S12.out.new x hx⟩))
  clear s13 t13
  go_wp2_with fail
  refine (pages_st S2''.out R2.out.ok HP2.out).mono ?_
  rintro e w14 ⟨rfl, s14, t14⟩
  have S14 := Lib.hid s14
  have S13' := Lib.hid (S13.out.other t14.chg (fun x hx => ⟨fun h => HDis.out x h hx, S2''.out.new x hx⟩))
  clear s14 t14
  go_upto_block 12 with fail
  refine dc_loop5 w w14 b b2 B ba8 bc8 ⟨own9, own2, D6, DS.image 60 bl, S13'.out, S14.out, HDis.out, R6.out, R2.out⟩ e6 ?_
  intro u6 u25 u28 u29 u30 u31 u32 u258 u259 u260 u261 u262 u263 u264 u265 u266 u267 u268 u269 u270 u271 u272 u273 u274 u275 u276 u277 u278 u279 u280 u281 u282 u283 u284 u285 u286 u287 w15 h15
  go_wp2_with fail
  go_ret
  exact ⟨rfl, h15⟩

section
variable {H : Type} {enc : TypeId × Value → H} {w : World} {base : Nat} {spare : Nat → Bool} {held : Bool}
open Go.Deep

theorem cells5 : Try.prog.cellsOf 5 = 1 := by kernel_rfl
theorem bytes5 : Try.prog.bytesOf 5 = 1 := by kernel_rfl
theorem bytes49 : Try.prog.bytesOf 49 = 16 := by kernel_rfl

set_option maxRecDepth 100000 in
theorem open_bytes {v : Value} {d : DataW H} {p : List MemPlace} (hv : Value.okWide Try.prog w .any base 27 v) (h : DataW.Trod enc Try.prog w 0 spare held 27 v d p) (N : Nat) (hN : ∀ el sp, d = .slice el sp → el.length + sp.length ≤ N) :
    ∃ bs, SeesB w v bs ∧ bs.length ≤ N := by
  obtain ⟨a, len, cap, rfl⟩ := okWide_slice Try.underlying27 hv
  obtain ⟨fuel, hf⟩ := h
  rcases open_slice1 Try.underlying27 cells5 hf with ⟨hcs, _⟩ | ⟨x, l, c, m, n, V, D, Pl, hcs, _, hl, hm, hmm, hd, hi⟩
  · simp [Value.cells] at hcs
    obtain ⟨rfl, rfl, rfl⟩ := hcs
    exact ⟨[], ⟨none, 0, rfl, fun _ => rfl, fun ad e => by cases e⟩, Nat.zero_le _⟩
  · simp [Value.cells] at hcs
    obtain ⟨rfl, rfl, rfl⟩ := hcs
    have hlm : len ≤ m := by rw [hmm]; split <;> omega
    have hcell : ∀ i, i < len → ∃ y : UInt8, w.cell? (x.add i) = some (bV y) := fun i hilt => by
      obtain ⟨hc, ht⟩ := hi i (by omega)
      obtain ⟨n1, e1, _, w1⟩ := DataW.trod_int Try.underlying5 ht
      simp only [List.cons.injEq, and_true] at e1
      have hb := bounds_u8 w1
      refine ⟨UInt8.ofNat n1.toNat, ?_⟩
      rw [hc, e1]
      unfold bV
      have : ((UInt8.ofNat n1.toNat).toNat : Int) = n1 := by rw [UInt8.toNat_ofNat']; omega
      rw [this]
    refine ⟨(List.range len).map (fun i => match w.cell? (x.add i) with | some (.int _ n) => UInt8.ofNat n.toNat | _ => 0), ⟨some x, cap, by rw [List.length_map, List.length_range], fun e => (by cases e), fun ad e j y hy => ?_⟩, ?_⟩
    · cases e
      have hilt : j < len := by have := (List.getElem?_eq_some_iff.1 hy).1; simpa using this
      obtain ⟨y', hc⟩ := hcell j hilt
      rw [List.getElem?_map, List.getElem?_range hilt, Option.map_some, hc] at hy
      cases hy
      rw [hc]
      unfold bV
      congr 1
      show Value.int .u8 _ = Value.int .u8 ((UInt8.ofNat (Int.toNat (y'.toNat : Int))).toNat : Int)
      rw [Int.toNat_natCast, UInt8.ofNat_toNat]
    · rw [List.length_map, List.length_range]
      simp only [Prod.mk.injEq] at hd
      have := hN _ _ hd.1
      simp only [List.length_map, List.length_range] at this
      omega

set_option maxRecDepth 100000 in
theorem open_fates {v : Value} {d : DataW H} {p : List MemPlace} (hv : Value.okWide Try.prog w .any base 45 v) (h : DataW.Trod enc Try.prog w 0 spare held 45 v d p) (hN : ∀ el sp, d = .slice el sp → (el.length + sp.length) * 16 ≤ 140737488351232) :
    ∃ ps, FatesA w v ps := by
  obtain ⟨a, len, cap, rfl⟩ := okWide_slice Try.underlying45 hv
  obtain ⟨fuel, hf⟩ := h
  have hlen : a ≠ none → len * 16 ≤ 140737488351232 := fun ha => by
    rcases open_slice Try.underlying45 hf with ⟨hcs, _⟩ | ⟨x, l, c, m, n, D, Pl, hcs, _, hl, hm, hmm, hd, hi⟩
    · simp [Value.cells] at hcs
      exact (ha hcs.1).elim
    · simp [Value.cells] at hcs
      obtain ⟨rfl, rfl, rfl⟩ := hcs
      simp only [Prod.mk.injEq] at hd
      have := hN _ _ hd.1
      simp only [List.length_map, List.length_range] at this
      omega
  rcases open_pairs Try.underlying45 Try.underlying49 (by kernel_rfl) cells49 hf with ⟨hcs, _⟩ | ⟨x, l, c, hcs, hl, hm, hi⟩
  · simp [Value.cells] at hcs
    obtain ⟨rfl, rfl, rfl⟩ := hcs
    exact ⟨[], none, 0, rfl, by simp, fun h => by simp at h⟩
  · simp [Value.cells] at hcs
    obtain ⟨rfl, rfl, rfl⟩ := hcs
    have hcell : ∀ i, i < len → ∃ (n m : Int), w.cell? (x.add (i * 2)) = some (.int .i64 n) ∧ w.cell? (x.add (i * 2 + 1)) = some (.int .i64 m) := fun i hilt => by
      obtain ⟨v0, v1, y0, y1, n, g0, g1, t0, t1⟩ := hi i hilt
      obtain ⟨n0, e0, _, _⟩ := DataW.trod_int Try.underlying3 t0
      obtain ⟨n1, e1, _, _⟩ := DataW.trod_int Try.underlying3 t1
      simp only [List.cons.injEq, and_true] at e0 e1
      subst e0 e1
      exact ⟨n0, n1, g0, g1⟩
    refine ⟨(List.range len).map (fun i => (match w.cell? (x.add (i * 2)) with | some (.int _ n) => n | _ => 0, match w.cell? (x.add (i * 2 + 1)) with | some (.int _ n) => n | _ => 0)), some x, cap, by rw [List.length_map, List.length_range], by rw [List.length_map, List.length_range]; exact hlen (by simp), fun hpos => ?_⟩
    rw [List.length_map, List.length_range] at hpos
    obtain ⟨n0, m0, hb0, _⟩ := hcell 0 hpos
    have hx0 : x.spot = none := congrArg Addr.spot (addr_head hb0)
    obtain ⟨g, o, s⟩ := x
    obtain rfl : s = none := hx0
    refine ⟨g, o, rfl, fun i y hy => ?_⟩
    have hilt : i < len := by have := (List.getElem?_eq_some_iff.1 hy).1; simpa using this
    obtain ⟨n', m', g0, g1⟩ := hcell i hilt
    rw [List.getElem?_map, List.getElem?_range hilt, Option.map_some, g0, g1] at hy
    rw [addr_add] at g0 g1
    cases hy
    refine ⟨g0, ?_⟩
    rw [Nat.add_assoc]
    exact g1
end

set_option maxRecDepth 100000 in
theorem lifted (os : Os) (started : os.Started) (H : Type) (enc : TypeId × Value → H) :
    ReturnsInHanded {} Try.checked os 5 .any (Rows.diskCrashesSpec.pre6 enc Try.prog Try.f5 Rows.diskCrashesRow.domain false) (Rows.diskCrashesSpec.post enc Try.prog Try.f5 false true false false) := by
  refine returnsInHanded_of_change_sized (C := Try.checked) own started (by kernel_rfl) Try.func5
    (ChangeSpec.witness6 (enc := enc) (C := Try.checked) false ⟨#[], #[.slice none 0 0, .slice none 0 0, .slice none 0 0], []⟩ 8 (by kernel_rfl) (by kernel_rfl) (by kernel_rfl) (by kernel_rfl)) ?_
  intro W base args ds gs before hval0 hW hcnd hsz0 _
  have hval : ∀ (j : Nat) t v, Try.f5.params[j]? = some t → args[j]? = some v → Value.okWide Try.prog W .any base t v := hval0
  have hsz : (DataW.weightsEach Try.prog (Try.f5.params.toList ++ Rows.diskCrashesSpec.plain.varTypes Try.prog) (ds ++ gs)).all (· ≤ reachBytes) = true := hsz0
  have hW' := hW
  obtain ⟨p, q, hA0, hV, rfl, hfz, hnd⟩ := hW
  have hA : DataW.TrodAll enc Try.prog W 0 (fun _ => true) true Try.f5.params.toList args.toList ds p := hA0
  rw [Try.params5] at hA hval hsz
  obtain ⟨v0, vs0, d0, ds0, p0, q0, hargs, rfl, rfl, h0, r0⟩ := trodAll_cons hA
  obtain ⟨v1, vs1, d1, ds1, p1, q1, rfl, rfl, rfl, h1, r1⟩ := trodAll_cons r0
  obtain ⟨v2, vs2, d2, ds2, p2, q2, rfl, rfl, rfl, h2, r2⟩ := trodAll_cons r1
  obtain ⟨rfl, rfl, rfl⟩ := trodAll_nil r2
  obtain rfl : args = #[v0, v1, v2] := by cases args; simp_all
  obtain ⟨rfl, rfl⟩ := trodVars_none hV
  have k0 := h0
  have lt0 : ∀ x ∈ p0, x.block < W.heap.size := by obtain ⟨m, hm⟩ := k0; exact DataW.trod_lt m _ _ _ hm
  have k1 := h1
  have lt1 : ∀ x ∈ p1, x.block < W.heap.size := by obtain ⟨m, hm⟩ := k1; exact DataW.trod_lt m _ _ _ hm
  have k2 := h2
  have lt2 : ∀ x ∈ p2, x.block < W.heap.size := by obtain ⟨m, hm⟩ := k2; exact DataW.trod_lt m _ _ _ hm
  obtain ⟨bs, hbs, hbl⟩ := open_bytes (hval 0 27 v0 rfl rfl) h0 140737488351232 (fun el sp e => by
    have := sized_slice hsz (j := 0) (t := 27) (e := 5) (elems := el) (spare := sp) rfl (by rw [e]; rfl) Try.underlying27
    rw [bytes5] at this; simp only [reachBytes] at this; omega)
  obtain ⟨ps, hps⟩ := open_puts (hval 1 22 v1 rfl rfl) h1
  obtain ⟨fs, hfs⟩ := open_fates (hval 2 45 v2 rfl rfl) h2 (fun el sp e => by
    have := sized_slice hsz (j := 2) (t := 45) (e := 49) (elems := el) (spare := sp) rfl (by rw [e]; rfl) Try.underlying45
    rw [bytes49] at this; simp only [reachBytes] at this; omega)
  clear hA0 hval0 hsz0
  refine (walk v0 v1 v2 bs ps fs W hbs hbl hps hfs).mono fun e W' ⟨he, bel⟩ => ?_
  subst he
  exact ⟨_, rfl, _, _, _, [], _, [], hW', trodAll_mk1 (shut_bool Try.underlying4 _), (trodAll_cons_mk (Below.trod laidOut (by kernel_rfl) (of_decide_eq_true (by kernel_rfl)) k0 bel lt0) (trodAll_cons_mk (Below.trod laidOut (by kernel_rfl) (of_decide_eq_true (by kernel_rfl)) k1 bel lt1) (trodAll_cons_mk (Below.trod laidOut (by kernel_rfl) (of_decide_eq_true (by kernel_rfl)) k2 bel lt2) trodAll_mk0))), rfl, bel.frame _, fun h => by cases h⟩

theorem over : Rows.diskCrashesRow.holds Try.pinned (OpenSpec.ofChange Rows.diskCrashesSpec) :=
  OpenClaim.holds_of_wide 5 Try.f5 rfl rfl rfl rfl rfl rfl rfl ⟨rfl, rfl, rfl, rfl, rfl⟩ rfl rfl rfl rfl rfl (by kernel_rfl) Try.func5 (by kernel_rfl)
    (of_decide_eq_true (by kernel_rfl)) (by unfold Func.isWrapper; first | (rw [if_pos (by decide +kernel)]; kernel_rfl) | (rw [if_neg (by decide +kernel)]; exact ⟨rfl, rfl⟩))
    (fun os started H enc _ => lifted os started H enc)

theorem proved : Rows.DiskCrashesSaid :=
  over
#print axioms proved
end Go.Proofs.Ytckioocahmbhkaa.diskCrashes
