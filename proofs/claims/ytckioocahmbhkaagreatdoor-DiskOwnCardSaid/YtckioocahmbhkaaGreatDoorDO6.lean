/- The argument of the law DiskOwn, opened; the law walked. -/
import Derived.Test.YtckioocahmbhkaaGreatDoorDO5
import Derived.Deep.Slices
import Derived.Deep.Fields
import Derived.ChangeSame
import Derived.ProofKit
import Derived.OpenShut
namespace Go.Proofs.YtckioocahmbhkaaGreatDoor
open Go Go.RowKit Go.Maps Go.MuLone

/-! ### arguments -/
open Go.ChangeShapes Go.WideShapes Go.Deep

def PutsA (w : World) (v : Value) (ps : List (Int × UInt8)) : Prop :=
  ∃ a cap, v = .slice a ps.length cap ∧ ps.length ≤ 9223372036854775807 ∧ (0 < ps.length → ∃ g o, a = some ⟨g, o, none⟩ ∧ ∀ (i : Nat) (x : Int × UInt8), ps[i]? = some x → w.cell? ⟨g, o + i * 2, none⟩ = some (.int .i64 x.1) ∧ w.cell? ⟨g, o + i * 2 + 1, none⟩ = some (bV x.2))

section
variable {H : Type} {enc : TypeId × Value → H} {w : World} {base : Nat} {spare : Nat → Bool} {held : Bool}

theorem addr_plain {a : Addr} {v : Value} (h : w.cell? a = some v) : a = ⟨a.block, a.off, none⟩ := by
  obtain ⟨b, o, s⟩ := a
  cases s with
  | none => rfl
  | some s =>
    unfold World.cell? at h
    split at h <;> simp at h

theorem addr_head {a : Addr} {v : Value} (h : w.cell? (a.add 0) = some v) : a = ⟨a.block, a.off, none⟩ := by
  have e : a.add 0 = a := by simp [Addr.add]
  rw [e] at h
  exact addr_plain h

set_option maxRecDepth 100000 in
theorem open_pairs {t e : TypeId} {f0 f1 : Field} {fuel : Nat} {cs : List Value} {x : DataW H × List MemPlace} (ht : Tryz.prog.underlying t = some (.slice e)) (he : Tryz.prog.underlying e = some (.struct #[f0, f1]))
    (hone : oneCellFields Tryz.prog #[f0, f1] = true) (hC : Tryz.prog.cellsOf e = 2) (h : DataW.trod enc Tryz.prog w base spare held fuel t cs = some x) :
    (cs = [.slice none 0 0] ∧ x = (.nil, [])) ∨
    ∃ (a : Addr) (len cap : Nat), cs = [.slice (some a) len cap] ∧ len ≤ cap ∧ cap ≤ maxLen ∧
      ∀ i, i < len → ∃ (v0 v1 : Value) (y0 y1 : DataW H × List MemPlace) (n : Nat), w.cell? (a.add (i * 2)) = some v0 ∧ w.cell? (a.add (i * 2 + 1)) = some v1 ∧ DataW.trod enc Tryz.prog w base spare held n f0.type [v0] = some y0 ∧ DataW.trod enc Tryz.prog w base spare held n f1.type [v1] = some y1 := by
  rcases open_slice ht h with h0 | ⟨a, len, cap, m, n, D, Pl, hcs, hb, hl, hm, hmm, hx, hi⟩
  · exact .inl ⟨h0.1, h0.2⟩
  · have hlm : len ≤ m := by rw [hmm]; split <;> omega
    refine .inr ⟨a, len, cap, hcs, hl, hm, fun i hilt => ?_⟩
    obtain ⟨cs', hc, ht'⟩ := hi i (by omega)
    rw [hC] at hc
    obtain ⟨ys, n', hn', hy, hlen, hyl, hf⟩ := DataW.trod_struct he ht'
    obtain ⟨_, hcl, hat⟩ := World.cells?_some hc
    obtain ⟨o0, k0⟩ := hone_of hone 0 f0 rfl
    obtain ⟨o1, k1⟩ := hone_of hone 1 f1 rfl
    match cs', hcl with
    | [c0, c1], _ =>
      have h0 := hf 0 f0 rfl
      have h1 := hf 1 f1 rfl
      rw [o0, k0] at h0
      rw [o1, k1] at h1
      match ys, hyl with
      | [y0, y1], _ =>
        have g0 := hat 0 (by omega)
        have g1 := hat 1 (by omega)
        rw [Go.Deep.add_add] at g0 g1
        exact ⟨c0, c1, y0, y1, n', g0, g1, h0, h1⟩

theorem cells31 : Tryz.prog.cellsOf 46 = 2 := by kernel_rfl
theorem cells49 : Tryz.prog.cellsOf 64 = 2 := by kernel_rfl

set_option maxRecDepth 100000 in
theorem open_puts {v : Value} {d : DataW H} {p : List MemPlace} (hv : Value.okWide Tryz.prog w .any base 22 v) (h : DataW.Trod enc Tryz.prog w 0 spare held 22 v d p) : ∃ ps, PutsA w v ps := by
  obtain ⟨a, len, cap, rfl⟩ := okWide_slice Tryz.underlying22 hv
  obtain ⟨fuel, hf⟩ := h
  rcases open_pairs Tryz.underlying22 Tryz.underlying46 (by kernel_rfl) cells31 hf with ⟨hcs, _⟩ | ⟨x, l, c, hcs, hl, hm, hi⟩
  · simp [Value.cells] at hcs
    obtain ⟨rfl, rfl, rfl⟩ := hcs
    exact ⟨[], none, 0, rfl, Nat.zero_le _, fun h => by simp at h⟩
  · simp [Value.cells] at hcs
    obtain ⟨rfl, rfl, rfl⟩ := hcs
    have hcell : ∀ i, i < len → ∃ (n : Int) (y : UInt8), w.cell? (x.add (i * 2)) = some (.int .i64 n) ∧ w.cell? (x.add (i * 2 + 1)) = some (bV y) := fun i hilt => by
      obtain ⟨v0, v1, y0, y1, n, g0, g1, t0, t1⟩ := hi i hilt
      obtain ⟨n0, e0, _, _⟩ := DataW.trod_int Tryz.underlying3 t0
      obtain ⟨n1, e1, _, w1⟩ := DataW.trod_int Tryz.underlying5 t1
      simp only [List.cons.injEq, and_true] at e0 e1
      subst e0 e1
      have hb := bounds_u8 w1
      refine ⟨n0, UInt8.ofNat n1.toNat, g0, ?_⟩
      rw [g1]
      unfold bV
      have : ((UInt8.ofNat n1.toNat).toNat : Int) = n1 := by
        rw [UInt8.toNat_ofNat']; omega
      rw [this]
    refine ⟨(List.range len).map (fun i => (match w.cell? (x.add (i * 2)) with | some (.int _ n) => n | _ => 0, match w.cell? (x.add (i * 2 + 1)) with | some (.int _ n) => UInt8.ofNat n.toNat | _ => 0)), some x, cap, by rw [List.length_map, List.length_range], by rw [List.length_map, List.length_range]; unfold maxLen at hm; omega, fun hpos => ?_⟩
    rw [List.length_map, List.length_range] at hpos
    obtain ⟨n0, y0, hb0, _⟩ := hcell 0 hpos
    have hx0 : x.spot = none := congrArg Addr.spot (addr_head hb0)
    obtain ⟨g, o, s⟩ := x
    obtain rfl : s = none := hx0
    refine ⟨g, o, rfl, fun i y hy => ?_⟩
    have hilt : i < len := by have := (List.getElem?_eq_some_iff.1 hy).1; simpa using this
    obtain ⟨n', y', g0, g1⟩ := hcell i hilt
    rw [List.getElem?_map, List.getElem?_range hilt, Option.map_some, g0, g1] at hy
    rw [addr_add] at g0 g1
    cases hy
    refine ⟨g0, ?_⟩
    rw [Nat.add_assoc]
    rw [g1]
    unfold bV
    congr 1
    show Value.int .u8 _ = Value.int .u8 ((UInt8.ofNat (Int.toNat (y'.toNat : Int))).toNat : Int)
    rw [Int.toNat_natCast, UInt8.ofNat_toNat]

end


def bookF0 (i : Nat) : Value := if i < 2 then .int .i64 0 else .slice none 0 0
def bookObj : Obj := .cells #[.int .i64 0, .int .i64 0, .slice none 0 0, .slice none 0 0, .slice none 0 0, .slice none 0 0, .slice none 0 0, .slice none 0 0, .slice none 0 0, .slice none 0 0, .slice none 0 0, .slice none 0 0, .slice none 0 0, .slice none 0 0, .slice none 0 0, .slice none 0 0, .slice none 0 0, .slice none 0 0, .slice none 0 0, .slice none 0 0, .slice none 0 0, .slice none 0 0, .slice none 0 0, .slice none 0 0, .slice none 0 0, .slice none 0 0, .slice none 0 0, .slice none 0 0, .slice none 0 0, .slice none 0 0, .slice none 0 0, .slice none 0 0, .slice none 0 0, .slice none 0 0, .slice none 0 0, .slice none 0 0, .slice none 0 0, .slice none 0 0, .slice none 0 0, .slice none 0 0, .slice none 0 0] 39
set_option maxRecDepth 100000 in
theorem built39 : Tryz.prog.built 39 [] = some #[.int .i64 0, .int .i64 0, .slice none 0 0, .slice none 0 0, .slice none 0 0, .slice none 0 0, .slice none 0 0, .slice none 0 0, .slice none 0 0, .slice none 0 0, .slice none 0 0, .slice none 0 0, .slice none 0 0, .slice none 0 0, .slice none 0 0, .slice none 0 0, .slice none 0 0, .slice none 0 0, .slice none 0 0, .slice none 0 0, .slice none 0 0, .slice none 0 0, .slice none 0 0, .slice none 0 0, .slice none 0 0, .slice none 0 0, .slice none 0 0, .slice none 0 0, .slice none 0 0, .slice none 0 0, .slice none 0 0, .slice none 0 0, .slice none 0 0, .slice none 0 0, .slice none 0 0, .slice none 0 0, .slice none 0 0, .slice none 0 0, .slice none 0 0, .slice none 0 0, .slice none 0 0] := by kernel_rfl
def os0 : Nat → Own := fun _ _ => none
set_option maxRecDepth 100000 in
theorem many_new {w0 w : World} (hc : Chg (fun _ => False) w0 w) : ManyE w0 (w.alloc bookObj) w.heap.size (.slice none 0 0) [] 0 0 0 := by
  have hk : Chg (fun _ => False) w (w.alloc bookObj) := (Chg.refl _ w).alloc _
  have hsz : (w.alloc bookObj).heap.size = w.heap.size + 1 := Array.size_push _
  have nb : ∀ d g, ¬ (os0 d).blocks g := fun d g e => e rfl
  refine ⟨fun g => if g = w.heap.size then some (0, 0) else none, os0, fun _ => DS.new 20, ⟨?_, World.ownsRow_nil _ _ _ _, fun d b hd => by simp at hd, fun d g e => (nb d g e).elim, fun d _ g e => nb d g e, fun d d' g _ e => (nb d g e).elim, fun g e => by simp [Value.ownBlock] at e, fun d g e => (nb d g e).elim, fun g r e => ?_, fun d g e => (nb d g e).elim, fun g e => by simp [Value.ownBlock] at e, hc.alloc _⟩⟩
  · refine ⟨bookF0, .slice none 0 0, .slice none 0 0, [], [], [], .slice none 0 0, .slice none 0 0, [], [], [], ⟨⟨⟨#[.int .i64 0, .int .i64 0, .slice none 0 0, .slice none 0 0, .slice none 0 0, .slice none 0 0, .slice none 0 0, .slice none 0 0, .slice none 0 0, .slice none 0 0, .slice none 0 0, .slice none 0 0, .slice none 0 0, .slice none 0 0, .slice none 0 0, .slice none 0 0, .slice none 0 0, .slice none 0 0, .slice none 0 0, .slice none 0 0, .slice none 0 0, .slice none 0 0, .slice none 0 0, .slice none 0 0, .slice none 0 0, .slice none 0 0, .slice none 0 0, .slice none 0 0, .slice none 0 0, .slice none 0 0, .slice none 0 0, .slice none 0 0, .slice none 0 0, .slice none 0 0, .slice none 0 0, .slice none 0 0, .slice none 0 0, .slice none 0 0, .slice none 0 0, .slice none 0 0, .slice none 0 0], bk_new w _, rfl, fun i hi => ?_⟩, by simp, fun g r e => ?_⟩, fun i h1 h2 _ _ _ _ => ?_, rfl, rfl, rfl, rfl, rfl, rfl, bytesKept.nil _ _, WKept.nil _ _, by simp, by simp, (fun x hx => by cases hx), (fun x hx => by cases hx)⟩, Nat.le_refl _, Nat.le_refl _⟩
    · match i, hi with
    | 0, _ => rfl
    | 1, _ => rfl
    | 2, _ => rfl
    | 3, _ => rfl
    | 4, _ => rfl
    | 5, _ => rfl
    | 6, _ => rfl
    | 7, _ => rfl
    | 8, _ => rfl
    | 9, _ => rfl
    | 10, _ => rfl
    | 11, _ => rfl
    | 12, _ => rfl
    | 13, _ => rfl
    | 14, _ => rfl
    | 15, _ => rfl
    | 16, _ => rfl
    | 17, _ => rfl
    | 18, _ => rfl
    | 19, _ => rfl
    | 20, _ => rfl
    | 21, _ => rfl
    | 22, _ => rfl
    | 23, _ => rfl
    | 24, _ => rfl
    | 25, _ => rfl
    | 26, _ => rfl
    | 27, _ => rfl
    | 28, _ => rfl
    | 29, _ => rfl
    | 30, _ => rfl
    | 31, _ => rfl
    | 32, _ => rfl
    | 33, _ => rfl
    | 34, _ => rfl
    | 35, _ => rfl
    | 36, _ => rfl
    | 37, _ => rfl
    | 38, _ => rfl
    | 39, _ => rfl
    | 40, _ => rfl
      | (n + 41), h => exact absurd h (by omega)
    · split at e
      · rw [hsz]; omega
      · cases e
    · unfold bookF0; rw [if_neg (by omega)]
  · split at e
    · rename_i e2; rw [e2]; exact hc.size
    · cases e

set_option maxRecDepth 100000 in
set_option maxHeartbeats 16000000 in
theorem own_law (w : World) (v : Value) (ps : List (Int × UInt8)) (h : PutsA w v ps) : Calls Tryz.prog 3 #[v] w fun e w' => e = .returned (.bool true) ∧ Chg (fun _ => False) w w' := by
  obtain ⟨pa, pcap, rfl, hps, hcells⟩ := h
  have HPut : Hid (0 < ps.length → ∃ g o, pa = some ⟨g, o, none⟩ ∧ ∀ (n : Nat) (x : Int × UInt8), ps[n]? = some x → PutAt w g o n x) := Lib.hid (fun hp => by
    obtain ⟨g, o, e, hc⟩ := hcells hp
    refine ⟨g, o, e, fun n x hx => ?_⟩
    obtain ⟨c1, c2⟩ := hc n x hx
    exact ⟨World.block_lt_of_cell? _ _ c1, fun wx hw => ⟨bk_cell hw c1 (fun f => f), bk_cell hw c2 (fun f => f)⟩⟩)
  clear hcells
  go_enter Tryz.func3, Tryz.ntmps3
  go_wp2_with fail
  refine (first_any _).mono ?_
  rintro e w1 ⟨rfl, b1⟩
  have C1 : Hid (Chg (fun _ => False) w w1) := Lib.hid ⟨b1.os, b1.tape, b1.output, b1.size, fun k hk _ => b1.block k hk⟩
  clear b1
  have hM0 := many_new (w0 := w) C1.out
  unfold bookObj at hM0
  have HM0 := Lib.hid hM0
  clear hM0
  go_upto_block 0 with (refine wpList_buildTo (by rfl) 39 #[] (by rfl) (some 21) (by rfl) #[.int .i64 0, .int .i64 0, .slice none 0 0, .slice none 0 0, .slice none 0 0, .slice none 0 0, .slice none 0 0, .slice none 0 0, .slice none 0 0, .slice none 0 0, .slice none 0 0, .slice none 0 0, .slice none 0 0, .slice none 0 0, .slice none 0 0, .slice none 0 0, .slice none 0 0, .slice none 0 0, .slice none 0 0, .slice none 0 0, .slice none 0 0, .slice none 0 0, .slice none 0 0, .slice none 0 0, .slice none 0 0, .slice none 0 0, .slice none 0 0, .slice none 0 0, .slice none 0 0, .slice none 0 0, .slice none 0 0, .slice none 0 0, .slice none 0 0, .slice none 0 0, .slice none 0 0, .slice none 0 0, .slice none 0 0, .slice none 0 0, .slice none 0 0, .slice none 0 0, .slice none 0 0] (by simpa using built39) ?_)
  obtain ⟨bb, hbb⟩ : ∃ bb, bb = w1.heap.size := ⟨_, rfl⟩
  rw [← hbb] at HM0
  try rw [← hbb]
  generalize w1.alloc _ = w1b at HM0 ⊢
  clear hbb
  refine own_disks w w1b bb HM0.out ?_
  intro u2 u5 u6 u7 u23 u24 u25 u26 u27 u28 u29 u30 u31 u32 u33 w2 h2
  obtain ⟨bs, h8, own2, os2, Ds2, hM2⟩ := h2
  obtain ⟨dg, dc, ed, _, _⟩ := hM2.row.form (by omega)
  rw [h8] at ed
  subst ed
  have H8 := Lib.hid h8
  have M2 := Lib.hid hM2
  clear hM2 h8
  go_upto_block 2 with fail
  refine own_plays w w2 bb dg dc bs H8.out pa pcap ps hps HPut.out ⟨own2, os2, Ds2, M2.out⟩ ?_
  intro u8 u9 u10 u11 u12 u13 u34 u35 u36 u37 u38 u39 u40 u41 u42 u43 u44 u45 u46 u47 u48 u49 u50 u51 u52 u53 u54 u55 u56 u57 u58 u59 u60 u61 u62 u63 u64 u65 u66 u67 u68 u69 u70 u71 u72 u73 u74 u75 u76 u77 u78 u79 u80 u81 u82 u83 u84 u85 u86 u87 u88 u89 u90 u91 u92 u93 w3 h3
  obtain ⟨own3, os3, Ds3, hM3⟩ := h3
  have M3 := Lib.hid hM3
  clear hM3
  go_upto_block 4 with fail
  refine own_was w w3 own3 bb dg dc bs os3 Ds3 H8.out M3.out ?_
  intro u14 u15 u16 u94 u95 u96 u97 u98 u99 u100 u101 u102 u103 u104 u105 u106 u107 w4 h4
  obtain ⟨wv, ew, hM4, hW4⟩ := h4
  subst ew
  have M4 := Lib.hid hM4
  have W4 := Lib.hid hW4
  clear hM4 hW4
  go_upto_block 6 with (go_at_call 15; refine M4.out.finish.mono ?_; rintro e w5 ⟨rfl, hA5, hK5⟩; have A5 := Lib.hid hA5; have W5 := Lib.hid (W4.out.after hK5); clear hA5 hK5)
  refine own_ends w w5 dg dc bs os3 Ds3 H8.out _ A5.out W5.out ?_
  intro u2 u18 u19 u110 u111 u112 u113 u114 u115 u116 u117 u118 u119 u120 u121 u122 u123 u124 u125 w6 h6
  have H6 := Lib.hid h6
  clear h6
  go_wp2_with fail
  go_ret
  exact ⟨rfl, H6.out⟩
end Go.Proofs.YtckioocahmbhkaaGreatDoor
