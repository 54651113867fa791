/- The law DiskOwn: its loops, each by itself. -/
import Derived.Test.YtckioocahmbhkaaGreatDoorDO3
namespace Go.Proofs.YtckioocahmbhkaaGreatDoor
open Go Go.RowKit Go.Maps Go.MuLone

def blkIn (k : Nat) : Code → Option Code
  | .block n c => if n = k then some (.block n c) else blkIn k c
  | .seq a b => match blkIn k a with
    | some c => some c
    | none => blkIn k b
  | .cond _ a b => match blkIn k a with
    | some c => some c
    | none => blkIn k b
  | .loop c => blkIn k c
  | .scope c => blkIn k c
  | _ => none
noncomputable def blk (k : Nat) (f : Func) : Code := ((f.body.bind (blkIn k)).getD .skip)

theorem info41 : (Tryz.prog.info? 41).map (fun i => (i.zero, i.size, i.bytes)) = some (some (.pointer none), 1, 8) := by kernel_rfl

/-- One disk more. -/
theorem Many.add {w0 w w1 w2 : World} {own : BOwn} {bb : Nat} {rv rv' : Value} {bs : List Nat} {os : Nat → Own} {Ds : Nat → DS} {k nb nw : Nat} (h : Many w0 w own bb rv bs os Ds k nb nw) (hc : Chg (fun _ => False) w w1) {b : Nat} {o' : Own} {D : DS} (hD : DiskAt w1 o' 0 b D) (hP : PInv D k) (ho : ∀ g, o'.blocks g → w.heap.size ≤ g)
    (hr : w2.ownsRow 0 41 1 rv' (bs.length + 1) (bs.map ptr ++ [ptr b])) (hc2 : Chg (fun x => rv.ownBlock = some x) w1 w2) (hrv : ∀ g, rv'.ownBlock = some g → rv.ownBlock = some g ∨ w1.heap.size ≤ g) :
    Many w0 w2 own bb rv' (bs ++ [b]) (updF os bs.length o') (updF Ds bs.length D) k nb nw := by
  have h1 := (h.chg0 hc).1
  have hlo : ∀ g, o'.blocks g → g < w1.heap.size := fun g e => by
    obtain ⟨_, _, _, _, hF⟩ := hD
    exact hF.lt g e
  have hrl : ∀ g, rv.ownBlock = some g → g < w.heap.size := fun g e => brow_lt h.row g e
  have key : ∀ i g, (updF os bs.length o' i).blocks g → (os i).blocks g ∨ (i = bs.length ∧ o'.blocks g) := fun i g e => by
    by_cases hi : i = bs.length
    · subst hi; rw [updF_same] at e; exact .inr ⟨rfl, e⟩
    · rw [updF_other hi] at e; exact .inl e
  refine ⟨h1.book.chg hc2 (fun g r e f => by rw [(h1.offr g f).1] at e; cases e), by rw [List.length_append, List.map_append]; exact hr, fun i c hi => ?_, fun i g e => ?_, fun i hi g e => ?_, fun i j g hij e1 e2 => ?_, fun g e => ?_, fun i g e => ?_, h.far1, fun i g e => ?_, fun g e => ?_, h1.chg.trans hc2 (fun x e => .inr (h.far3 x e))⟩
  · rcases Nat.lt_or_ge i bs.length with hl | hl
    · rw [List.getElem?_append_left hl] at hi
      rw [updF_other (by omega), updF_other (by omega)]
      exact ⟨(h1.disk i c hi).1.chg hc2 (fun g hg e => (h1.offr g e).2 i hg), (h1.disk i c hi).2⟩
    · rw [List.getElem?_append_right hl] at hi
      have h0 : i - bs.length = 0 := by have := (List.getElem?_eq_some_iff.1 hi).1; simp at this; omega
      rw [h0] at hi
      obtain rfl : i = bs.length := by omega
      simp at hi; subst hi
      rw [updF_same, updF_same]
      exact ⟨hD.chg hc2 (fun g hg e => by have := hrl g e; have := ho g hg; omega), hP⟩
  · rcases key i g e with a | ⟨_, a⟩
    · exact Nat.lt_of_lt_of_le (h1.lt i g a) hc2.size
    · exact Nat.lt_of_lt_of_le (hlo g a) hc2.size
  · rw [List.length_append] at hi
    simp only [List.length_cons, List.length_nil] at hi
    rw [updF_other (by omega)] at e
    exact h.beyond i (by omega) g e
  · rcases key i g e1 with a | ⟨rfl, a⟩
    · rcases key j g e2 with c | ⟨rfl, c⟩
      · exact h.apart i j g hij a c
      · have := h.lt i g a; have := ho g c; omega
    · rcases key j g e2 with c | ⟨rfl, c⟩
      · have := h.lt j g c; have := ho g a; omega
      · exact hij rfl
  · rcases hrv g e with a | a
    · refine ⟨(h.offr g a).1, fun i f => ?_⟩
      rcases key i g f with c | ⟨_, c⟩
      · exact (h.offr g a).2 i c
      · have := hrl g a; have := ho g c; omega
    · refine ⟨(h1.free_new a).1, fun i f => ?_⟩
      rcases key i g f with c | ⟨_, c⟩
      · exact (h1.free_new a).2.1 i c
      · have := hlo g c; omega
  · rcases key i g e with a | ⟨_, a⟩
    · exact h.offb i g a
    · exact (h.free_new (ho g a)).1
  · rcases key i g e with a | ⟨_, a⟩
    · exact h.far2 i g a
    · exact Nat.le_trans h.chg.size (ho g a)
  · rcases hrv g e with a | a
    · exact h.far3 g a
    · exact Nat.le_trans h1.chg.size a

/-- One pointer, or one list of bytes more, at a plain region's list. -/
theorem list_one {wr : World} {ops : Array Oper} {rest : List Oper} {o : Oper} {a : Act} {Q : Exit → Act → World → Prop} (hgd : o.guard = none) (s x : Operand) (t e : TypeId) (i : TypeInfo) (z : Value) (bytes : Nat)
    (ht : Tryz.prog.underlying t = some (.slice e)) (hi : Tryz.prog.info? e = some i) (hz0 : i.zero = some z) (hz1 : i.size = 1) (hz2 : i.bytes = bytes) (hzc : z.cells.size = 1) (hbb : bytes ≤ 24)
    (ho : o.op = .call { callee := .builtin .append, args := #[s, x], argTypes := #[t, t] }) (v : Value) (n : Nat) (vs : List Value) (hs : a.eval s = v) (hrow : wr.ownsRow 0 e 1 v n vs) (u : Value)
    (hu : u.oneCell' = true) (b : Nat) (hb : wr.heap[b]? = some (.cells #[u] e)) (hx : a.eval x = .slice (some ⟨b, 0, none⟩) 1 1) (hl : n ≤ 1000)
    (h : ∀ g cap w5, w5.ownsRow 0 e 1 (.slice (some ⟨g, 0, none⟩) (n + 1) cap) (n + 1) (vs ++ [u]) → Chg (fun k => v.ownBlock = some k) wr w5 → (v.ownBlock = some g ∨ g = wr.heap.size) → wpList Tryz.prog ops Q rest (a.put o.dst (.slice (some ⟨g, 0, none⟩) (n + 1) cap)) w5) :
    wpList Tryz.prog ops Q (o :: rest) a wr := by
  refine wpList_append_lies (P := Tryz.prog) wr hgd s x t ho 0 e i z 1 bytes ht hi hz0 hz1 hz2 hzc (by omega) v n vs hs hrow ⟨b, 0, none⟩ 1 1 [u] hx rfl (World.news_of_block (cs := #[u]) hb) (fun y hy => ?_) (by omega) (by unfold maxLen; omega) (by have : (n + 1) * bytes ≤ 1001 * 24 := Nat.mul_le_mul (by omega) hbb; omega) (Nat.zero_le _) wr.heap.size rfl ?_
  · simp at hy; subst hy; exact hu
  · intro g cap w5 h1 h2 h3 _
    exact h g cap w5 h1 ((Chg.refl (fun k => v.ownBlock = some k) wr).grown h2 (fun k e => .inl e)) h3

set_option maxRecDepth 100000 in
set_option maxHeartbeats 8000000 in
theorem own_disks {Q0 : Exit → Act → World → Prop} {s0 s1 s2 s3 s7 s8 s9 s10 s11 s12 s13 s14 s15 s16 s17 s18 s19 s20 s21 s22 s23 s24 s25 s26 s27 s28 s29 s30 s31 s32 s33 s34 s35 s36 s37 s38 s39 s40 s41 s42 s43 s44 s45 s46 s47 s48 s49 s50 s51 s52 s53 s54 s55 s56 s57 s58 s59 s60 s61 s62 s63 s64 s65 s66 s67 s68 s69 s70 s71 s72 s73 s74 s75 s76 s77 s78 s79 s80 s81 s82 s83 s84 s85 s86 s87 s88 s89 s90 s91 s92 s93 s94 s95 s96 s97 s98 s99 s100 s101 s102 s103 s104 s105 s106 s107 s108 s109 s110 s111 s112 s113 s114 s115 s116 s117 s118 s119 s120 s121 s122 s123 s124 s125 s126 s127 s128 s129 : Value} (w0 w : World) (bb : Nat) (hM : ManyE w0 w bb (.slice none 0 0) [] 0 0 0)
    (hexit : ∀ ⦃u2 u5 u6 u7 u23 u24 u25 u26 u27 u28 u29 u30 u31 u32 u33 : Value⦄ (w' : World), (∃ bs : List Nat, bs.length = 8 ∧ ManyE w0 w' bb u5 bs 0 0 0) → Q0 .normal ⟨List.toArray (s0 :: s1 :: u2 :: s3 :: .pointer (some ⟨bb, 0, none⟩) :: u5 :: u6 :: u7 :: s8 :: s9 :: s10 :: s11 :: s12 :: s13 :: s14 :: s15 :: s16 :: s17 :: s18 :: s19 :: s20 :: s21 :: s22 :: u23 :: u24 :: u25 :: u26 :: u27 :: u28 :: u29 :: u30 :: u31 :: u32 :: u33 :: s34 :: s35 :: s36 :: s37 :: s38 :: s39 :: s40 :: s41 :: s42 :: s43 :: s44 :: s45 :: s46 :: s47 :: s48 :: s49 :: s50 :: s51 :: s52 :: s53 :: s54 :: s55 :: s56 :: s57 :: s58 :: s59 :: s60 :: s61 :: s62 :: s63 :: s64 :: s65 :: s66 :: s67 :: s68 :: s69 :: s70 :: s71 :: s72 :: s73 :: s74 :: s75 :: s76 :: s77 :: s78 :: s79 :: s80 :: s81 :: s82 :: s83 :: s84 :: s85 :: s86 :: s87 :: s88 :: s89 :: s90 :: s91 :: s92 :: s93 :: s94 :: s95 :: s96 :: s97 :: s98 :: s99 :: s100 :: s101 :: s102 :: s103 :: s104 :: s105 :: s106 :: s107 :: s108 :: s109 :: s110 :: s111 :: s112 :: s113 :: s114 :: s115 :: s116 :: s117 :: s118 :: s119 :: s120 :: s121 :: s122 :: s123 :: s124 :: s125 :: s126 :: s127 :: s128 :: s129 :: []), []⟩ w') :
    Code.wp Tryz.prog (blk 0 Tryz.f3) Q0 ⟨List.toArray (s0 :: s1 :: s2 :: s3 :: .pointer (some ⟨bb, 0, none⟩) :: .slice none 0 0 :: .int .i64 0 :: s7 :: s8 :: s9 :: s10 :: s11 :: s12 :: s13 :: s14 :: s15 :: s16 :: s17 :: s18 :: s19 :: s20 :: s21 :: s22 :: s23 :: s24 :: s25 :: s26 :: s27 :: s28 :: s29 :: s30 :: s31 :: s32 :: s33 :: s34 :: s35 :: s36 :: s37 :: s38 :: s39 :: s40 :: s41 :: s42 :: s43 :: s44 :: s45 :: s46 :: s47 :: s48 :: s49 :: s50 :: s51 :: s52 :: s53 :: s54 :: s55 :: s56 :: s57 :: s58 :: s59 :: s60 :: s61 :: s62 :: s63 :: s64 :: s65 :: s66 :: s67 :: s68 :: s69 :: s70 :: s71 :: s72 :: s73 :: s74 :: s75 :: s76 :: s77 :: s78 :: s79 :: s80 :: s81 :: s82 :: s83 :: s84 :: s85 :: s86 :: s87 :: s88 :: s89 :: s90 :: s91 :: s92 :: s93 :: s94 :: s95 :: s96 :: s97 :: s98 :: s99 :: s100 :: s101 :: s102 :: s103 :: s104 :: s105 :: s106 :: s107 :: s108 :: s109 :: s110 :: s111 :: s112 :: s113 :: s114 :: s115 :: s116 :: s117 :: s118 :: s119 :: s120 :: s121 :: s122 :: s123 :: s124 :: s125 :: s126 :: s127 :: s128 :: s129 :: []), []⟩ w := by
  have HX := Lib.hid hexit
  have HM := Lib.hid hM
  obtain ⟨i1, hi1, hz0, hz1, hz2⟩ := info_parts info41
  clear hexit hM
  conv => arg 2; whnf
  go_wp2_with fail
  go_loopg [5, 6, 7] 8 (fun gm lv iv _ wr => ∃ (bs : List Nat) (a : Option Addr) (cap : Nat), bs.length ≤ 8 ∧ gm = 8 - bs.length ∧ iv = .int .i64 bs.length ∧ lv = .slice a bs.length cap ∧ ManyE w0 wr bb (.slice a bs.length cap) bs 0 0 0)
  case atStart => exact ⟨[], none, 0, by simp, rfl, rfl, rfl, HM.out⟩
  case round =>
    obtain ⟨bs, a, cap, hle, hgm, rfl, rfl, own, os, Ds, hM1⟩ := hrel
    have Hg := Lib.hid hgm
    have M1 := Lib.hid hM1
    clear hgm hM1
    by_cases hlt : bs.length < 8
    · have hj : (bs.length : Int) < 8 := by omega
      have hj0 : (0 : Int) ≤ (bs.length : Int) := Int.natCast_nonneg _
      go_wp2_with fail
      refine (new_yes wr 20 (by omega) (by omega)).mono ?_
      rintro e w2 ⟨rfl, hD, hc⟩
      have HD := Lib.hid hD
      have HC := Lib.hid hc
      have HRow : Hid (∀ o, (w2.alloc o).ownsRow 0 41 1 (.slice a bs.length cap) bs.length (bs.map ptr)) := Lib.hid (fun o => ownsRow_chg M1.out.row (hc.alloc o) (fun _ _ f => f))
      clear hD hc
      go_wp2_with
        (at_builtin
         refine list_one (wr := w2.alloc (.cells #[ptr (wr.heap.size + 1)] 41)) (by rfl) _ _ 40 41 i1 (.pointer none) 8 Tryz.underlying40 hi1 hz0 hz1 hz2 rfl (by omega) (by rfl) (.slice a bs.length cap) bs.length (bs.map ptr) (by rfl) (HRow.out _) (ptr (wr.heap.size + 1)) rfl w2.heap.size (heap_alloc_new w2 _) (by rfl) (by omega) ?_
         intro g5 c5 w5 hr5 hc5 hat5)
      have HR5 := Lib.hid hr5
      have HC5 : Hid (Chg (fun x => (Value.slice a bs.length cap).ownBlock = some x) w2 w5) := Lib.hid (((Chg.refl _ w2).alloc _).trans hc5 (fun _ h => Or.inl h))
      have HA5 := Lib.hid hat5
      clear hr5 hc5 hat5
      go_roundg (8 - (bs.length + 1))
      case measure => have := Hg.out; omega
      case rel =>
        have hsz : (w2.alloc (.cells #[ptr (wr.heap.size + 1)] 41)).heap.size = w2.heap.size + 1 := Array.size_push _
        refine ⟨bs ++ [wr.heap.size + 1], some ⟨g5, 0, none⟩, c5, by simp; omega, by simp, by rw [List.length_append]; go_num, by simp, own, _, _, M1.out.add HC.out HD.out (PInv.new (by omega)) (fun g e => (own0_blocks e).1) (by rw [show (bs ++ [wr.heap.size + 1]).length = bs.length + 1 by simp]; exact HR5.out) HC5.out (fun g e => ?_)⟩
        simp only [Value.ownBlock, Option.some.injEq] at e
        rcases HA5.out with e2 | e2
        · exact .inl (by rw [← e]; exact e2)
        · right; omega
    · have hj : ¬ (bs.length : Int) < 8 := by omega
      have H8 : Hid (bs.length = 8) := Lib.hid (by omega)
      go_wp2_with fail
      exact HX.out wr ⟨bs, H8.out, own, os, Ds, M1.out⟩

set_option maxRecDepth 100000 in
set_option maxHeartbeats 8000000 in
theorem own_plays {Q0 : Exit → Act → World → Prop} {s1 s2 s3 s6 s7 s9 s10 s11 s12 s13 s14 s15 s16 s17 s18 s19 s20 s21 s22 s23 s24 s25 s26 s27 s28 s29 s30 s31 s32 s33 s34 s35 s36 s37 s38 s39 s40 s41 s42 s43 s44 s45 s46 s47 s48 s49 s50 s51 s52 s53 s54 s55 s56 s57 s58 s59 s60 s61 s62 s63 s64 s65 s66 s67 s68 s69 s70 s71 s72 s73 s74 s75 s76 s77 s78 s79 s80 s81 s82 s83 s84 s85 s86 s87 s88 s89 s90 s91 s92 s93 s94 s95 s96 s97 s98 s99 s100 s101 s102 s103 s104 s105 s106 s107 s108 s109 s110 s111 s112 s113 s114 s115 s116 s117 s118 s119 s120 s121 s122 s123 s124 s125 s126 s127 s128 s129 : Value} (w0 w : World) (bb dg dc : Nat) (bs : List Nat) (h8 : bs.length = 8) (pa : Option Addr) (pcap : Nat) (ps : List (Int × UInt8)) (hps : ps.length ≤ 9223372036854775807) (hput : 0 < ps.length → ∃ g o, pa = some ⟨g, o, none⟩ ∧ ∀ (n : Nat) (x : Int × UInt8), ps[n]? = some x → PutAt w0 g o n x) (hM : ManyE w0 w bb (.slice (some ⟨dg, 0, none⟩) 8 dc) bs 0 0 0)
    (hexit : ∀ ⦃u8 u9 u10 u11 u12 u13 u34 u35 u36 u37 u38 u39 u40 u41 u42 u43 u44 u45 u46 u47 u48 u49 u50 u51 u52 u53 u54 u55 u56 u57 u58 u59 u60 u61 u62 u63 u64 u65 u66 u67 u68 u69 u70 u71 u72 u73 u74 u75 u76 u77 u78 u79 u80 u81 u82 u83 u84 u85 u86 u87 u88 u89 u90 u91 u92 u93 : Value⦄ (w' : World), (ManyE w0 w' bb (.slice (some ⟨dg, 0, none⟩) 8 dc) bs 120 30000 30) → Q0 .normal ⟨List.toArray (.slice pa ps.length pcap :: s1 :: s2 :: s3 :: .pointer (some ⟨bb, 0, none⟩) :: .slice (some ⟨dg, 0, none⟩) 8 dc :: s6 :: s7 :: u8 :: u9 :: u10 :: u11 :: u12 :: u13 :: s14 :: s15 :: s16 :: s17 :: s18 :: s19 :: s20 :: s21 :: s22 :: s23 :: s24 :: s25 :: s26 :: s27 :: s28 :: s29 :: s30 :: s31 :: s32 :: s33 :: u34 :: u35 :: u36 :: u37 :: u38 :: u39 :: u40 :: u41 :: u42 :: u43 :: u44 :: u45 :: u46 :: u47 :: u48 :: u49 :: u50 :: u51 :: u52 :: u53 :: u54 :: u55 :: u56 :: u57 :: u58 :: u59 :: u60 :: u61 :: u62 :: u63 :: u64 :: u65 :: u66 :: u67 :: u68 :: u69 :: u70 :: u71 :: u72 :: u73 :: u74 :: u75 :: u76 :: u77 :: u78 :: u79 :: u80 :: u81 :: u82 :: u83 :: u84 :: u85 :: u86 :: u87 :: u88 :: u89 :: u90 :: u91 :: u92 :: u93 :: s94 :: s95 :: s96 :: s97 :: s98 :: s99 :: s100 :: s101 :: s102 :: s103 :: s104 :: s105 :: s106 :: s107 :: s108 :: s109 :: s110 :: s111 :: s112 :: s113 :: s114 :: s115 :: s116 :: s117 :: s118 :: s119 :: s120 :: s121 :: s122 :: s123 :: s124 :: s125 :: s126 :: s127 :: s128 :: s129 :: []), []⟩ w') :
    Code.wp Tryz.prog (blk 2 Tryz.f3) Q0 ⟨List.toArray (.slice pa ps.length pcap :: s1 :: s2 :: s3 :: .pointer (some ⟨bb, 0, none⟩) :: .slice (some ⟨dg, 0, none⟩) 8 dc :: s6 :: s7 :: .int .i64 0 :: s9 :: s10 :: s11 :: s12 :: s13 :: s14 :: s15 :: s16 :: s17 :: s18 :: s19 :: s20 :: s21 :: s22 :: s23 :: s24 :: s25 :: s26 :: s27 :: s28 :: s29 :: s30 :: s31 :: s32 :: s33 :: s34 :: s35 :: s36 :: s37 :: s38 :: s39 :: s40 :: s41 :: s42 :: s43 :: s44 :: s45 :: s46 :: s47 :: s48 :: s49 :: s50 :: s51 :: s52 :: s53 :: s54 :: s55 :: s56 :: s57 :: s58 :: s59 :: s60 :: s61 :: s62 :: s63 :: s64 :: s65 :: s66 :: s67 :: s68 :: s69 :: s70 :: s71 :: s72 :: s73 :: s74 :: s75 :: s76 :: s77 :: s78 :: s79 :: s80 :: s81 :: s82 :: s83 :: s84 :: s85 :: s86 :: s87 :: s88 :: s89 :: s90 :: s91 :: s92 :: s93 :: s94 :: s95 :: s96 :: s97 :: s98 :: s99 :: s100 :: s101 :: s102 :: s103 :: s104 :: s105 :: s106 :: s107 :: s108 :: s109 :: s110 :: s111 :: s112 :: s113 :: s114 :: s115 :: s116 :: s117 :: s118 :: s119 :: s120 :: s121 :: s122 :: s123 :: s124 :: s125 :: s126 :: s127 :: s128 :: s129 :: []), []⟩ w := by
  have HX := Lib.hid hexit
  have HM := Lib.hid hM
  have HP := Lib.hid hput
  have H8 := Lib.hid h8
  clear hexit hM hput h8
  conv => arg 2; whnf
  go_wp2_with fail
  go_loopg [8, 9, 10, 11, 12, 13] ps.length (fun gm iv _ _ _ _ _ wr => ∃ n : Nat, n ≤ ps.length ∧ n ≤ 30 ∧ gm = ps.length - n ∧ iv = .int .i64 n ∧ ManyE w0 wr bb (.slice (some ⟨dg, 0, none⟩) 8 dc) bs (4 * n) (1000 * n) n)
  case atStart => exact ⟨0, by omega, by omega, rfl, rfl, HM.out⟩
  case round =>
    obtain ⟨n, hn, h30, hgm, rfl, hM1⟩ := hrel
    have Hg := Lib.hid hgm
    have M1 := Lib.hid hM1
    clear hgm hM1
    by_cases hlt : n < ps.length
    · have hi : (n : Int) < (ps.length : Int) := by omega
      by_cases hlt2 : n < 30
      · have hi2 : (n : Int) < 30 := by omega
        have hi0 : (0 : Int) ≤ (n : Int) := Int.natCast_nonneg _
        obtain ⟨x, hx⟩ : ∃ x, ps[n]? = some x := ⟨_, List.getElem?_eq_getElem hlt⟩
        obtain ⟨g, o, rfl, hpp⟩ := HP.out (by omega)
        have PX := Lib.hid (hpp n x hx)
        obtain ⟨d, hd⟩ : ∃ d : Nat, d = (3 * n) % 8 := ⟨_, rfl⟩
        have hd8 : d < 8 := by omega
        obtain ⟨b, hb⟩ : ∃ b, bs[d]? = some b := ⟨_, List.getElem?_eq_getElem (by rw [H8.out]; exact hd8)⟩
        have HB := Lib.hid hb
        have hcell : wr.cell? ⟨dg, d, none⟩ = some (.pointer (some ⟨b, 0, none⟩)) := by
          obtain ⟨own, os, Ds, hM2⟩ := M1.out
          have h := hM2.row.cells rfl d (ptr b) (by rw [List.getElem?_map, hb]; rfl)
          rw [bk_add, Nat.zero_add] at h
          exact h
        have hrem : (3 * (n : Int)).tmod 8 = (d : Int) := by rw [Int.tmod_eq_emod_of_nonneg (by omega)]; omega
        have hrem2 : (3 * (n : Int)) % 8 = (d : Int) := by omega
        have hwr : IntKind.i64.wrap (3 * (n : Int)) = 3 * (n : Int) := IntWalk.i64_in _ (by omega)
        have hd0 : (0 : Int) ≤ (d : Int) := Int.natCast_nonneg _
        have hd1 : (d : Int) < 8 := by omega
        clear hx hpp hd hb
        go_upto_region 15 with fail
        refine own_write w0 wr bb (.slice (some ⟨dg, 0, none⟩) 8 dc) bs (4 * n) (1000 * n) n n g o ps.length pcap x PX.out hlt hps d b HB.out (by omega) M1.out ?_
        intro u50 u51 u52 u53 u54 u55 u56 u57 u58 u59 u60 u61 u62 w2 h2
        have M2 := Lib.hid h2
        clear h2 hcell
        go_upto_if 65 with fail
        refine own_sync w0 w2 bb (.slice (some ⟨dg, 0, none⟩) 8 dc) bs (4 * n + 1) (1000 * n) n _ d b HB.out (by omega) M2.out ?_
        intro u66 u67 w3 h3
        have M3 := Lib.hid h3
        clear h3
        go_upto_if 69 with fail
        refine own_keep w0 w3 bb (.slice (some ⟨dg, 0, none⟩) 8 dc) bs (4 * n + 2) (1000 * n) n _ d b HB.out (by omega) (by omega) (by omega) M3.out ?_
        intro u10 u11 u12 u13 u70 u71 u72 u73 u74 u75 u76 u77 u78 u79 u80 u81 u82 u83 u84 u85 u86 u87 u88 u89 u90 u91 u92 u93 w4 h4
        have M4 := Lib.hid h4
        clear h4
        go_wp2_with fail
        go_roundg (ps.length - (n + 1))
        case measure => have := Hg.out; omega
        case rel => exact ⟨n + 1, by omega, by omega, rfl, by go_num, M4.out⟩
      · have hi2 : ¬ (n : Int) < 30 := by omega
        go_wp2_with fail
        obtain ⟨own, os, Ds, hM2⟩ := M1.out
        exact HX.out wr ⟨own, os, Ds, hM2.mono (by omega) (by omega) (by omega)⟩
    · have hi : ¬ (n : Int) < (ps.length : Int) := by omega
      go_wp2_with fail
      obtain ⟨own, os, Ds, hM2⟩ := M1.out
      exact HX.out wr ⟨own, os, Ds, hM2.mono (by omega) (by omega) (by omega)⟩
end Go.Proofs.YtckioocahmbhkaaGreatDoor
