/- Walks: the document's Hex. -/
import Derived.Test.YteejkkidnohcfaaGreatDoorW2
import Derived.Deep.AppendLies
import Derived.Deep.RegionLaw
namespace Go.Proofs.YteejkkidnohcfaaGreatDoor
open Go Go.RowKit Go.Maps

theorem step_bytes {wr : World} {ops : Array Oper} {o : Oper} {a : Act} {K : Act → World → Prop} {Q : Exit → Act → World → Prop} {E : Prop} (hgd : o.guard = none) (s x : Operand)
    (ho : o.op = .call { callee := .builtin .append, args := #[s, x], argTypes := #[49, 49] }) (v : Value) (zs : Bytes) (hs : a.eval s = v) (hrow : wr.ownsRow 0 5 1 v zs.length (bVs zs)) (ys : Bytes)
    (hx : a.eval x = .slice (some ⟨wr.heap.size, 0, none⟩) ys.length ys.length) (hy : 0 < ys.length) (hl : zs.length + ys.length ≤ 70368744177664)
    (h : ∀ g cap w5, w5.ownsRow 0 5 1 (.slice (some ⟨g, 0, none⟩) (zs.length + ys.length) cap) (zs.length + ys.length) (bVs (zs ++ ys)) → Chg (fun k => v.ownBlock = some k) wr w5 → (v.ownBlock = some g ∨ wr.heap.size < g) → K (a.put o.dst (.slice (some ⟨g, 0, none⟩) (zs.length + ys.length) cap)) w5) :
    if Region.wanted o (yielded ops a.tmps) = true then Oper.wp Tryz.prog o a (wr.alloc (.cells (bVs ys).toArray 5)) K Q else E := by
  obtain ⟨i1, hi', hz0, hz1, hz2⟩ := info_parts info5
  refine step_append_lies _ hgd s x 49 ho 0 5 i1 (.int .u8 0) 1 1 Tryz.underlying49 hi' hz0 hz1 hz2 rfl (by omega) v zs.length (bVs zs) hs (hrow.alloc _) ⟨wr.heap.size, 0, none⟩ ys.length ys.length (bVs ys) hx (by rw [bVs_length]; omega) (World.news_of_block (cs := (bVs ys).toArray) (t := 5) (fr := (0, 0)) (heap_alloc_new wr _)) oneCell_bVs (by omega) (by unfold maxLen; omega) (by omega) (Nat.zero_le _) (wr.heap.size + 1) (Array.size_push _) ?_
  intro g cap w5 h1 h2 h3 _
  refine h g cap w5 (by have e : bVs (zs ++ ys) = bVs zs ++ bVs ys := by simp [bVs]
                        rw [e]; exact h1) (((Chg.refl (fun k => v.ownBlock = some k) wr).alloc _).grown h2 (fun k e => .inl e)) (h3.imp id (fun e => by omega))

/-- The digits as the program has them. -/
abbrev dg (n : Nat) (h : n < 16) : UInt8 := (ByteArray.mk #[48, 49, 50, 51, 52, 53, 54, 55, 56, 57, 97, 98, 99, 100, 101, 102])[n]'h

theorem wrap8 {n : Int} (h0 : 0 ≤ n) (h1 : n < 256) : IntKind.u8.wrap n = n := by
  have hm : n % 256 = n := by omega
  unfold IntKind.wrap
  simp [IntKind.bits, IntKind.signed, hm]

set_option maxRecDepth 100000 in
set_option maxHeartbeats 4000000 in
theorem rhex_any (w : World) (v : Value) (bs : Bytes) (h : SeesB w v bs) (hl : bs.length ≤ 1073741824) :
    Calls Tryz.prog 12 #[v] w fun e w' => e = .returned (.string ⟨(hexB bs).toArray⟩) ∧ Chg (fun _ => False) w w' := by
  obtain ⟨a, cap, rfl, hn, hc⟩ := h
  have Hn := Lib.hid hn
  have Hc := Lib.hid hc
  clear hn hc
  by_cases hz : bs.length = 0
  · have hb : ((bs.length : Int) == 0) = true := by rw [beq_iff_eq]; omega
    obtain rfl : bs = [] := List.eq_nil_of_length_eq_zero hz
    clear hz
    go_enter Tryz.func12, Tryz.ntmps12
    go_wp2
    go_ret
    exact ⟨rfl, Chg.refl _ _⟩
  · have hb : ((bs.length : Int) == 0) = false := by rw [beq_eq_false_iff_ne]; omega
    cases a with
    | none => exact (hz (by rw [Hn.out rfl]; rfl)).elim
    | some ad =>
      have HZ := Lib.hid hz
      clear hz
      go_enter Tryz.func12, Tryz.ntmps12
      go_wp2_with fail
      go_loopg [3, 4] bs.length (fun gm tv iv wr => ∃ (k : Nat) (tv' : Value), k ≤ bs.length ∧ gm = bs.length - k ∧ iv = .int .i64 k ∧ tv = tv' ∧ wr.ownsRow 0 5 1 tv' (hexs (bs.take k)).length (bVs (hexs (bs.take k))) ∧ (∀ g, tv'.ownBlock = some g → w.heap.size ≤ g) ∧ Chg (fun _ => False) w wr)
      case atStart => exact ⟨0, .slice none 0 0, by omega, rfl, rfl, rfl, World.ownsRow_nil _ _ _ _, fun g e => (by simp [Value.ownBlock] at e), Chg.refl _ _⟩
      case round =>
        obtain ⟨k, tv', hk, hg, rfl, rfl, hrow, hfr, hch⟩ := hrel
        obtain ⟨ta, tc, rfl, _⟩ := ownsRow_slice hrow
        have Hg := Lib.hid hg
        have HRow := Lib.hid hrow
        have HFr := Lib.hid hfr
        have HCh := Lib.hid hch
        clear hg hrow hfr
        by_cases hlt : k < bs.length
        · obtain ⟨x, hx⟩ : ∃ x, bs[k]? = some x := ⟨_, List.getElem?_eq_getElem hlt⟩
          have HT := Lib.hid (take_snoc hx)
          have cx : wr.cell? (ad.add k) = some (.int .u8 x.toNat) := cell_chg hch (Hc.out ad rfl k x hx) (fun f => f)
          have hki : (k : Int) < (bs.length : Int) := by omega
          have hk0 : (0 : Int) ≤ (k : Int) := by omega
          have hx1 : (x.toNat : Int) / 16 < 16 := by have := x.toNat_lt; omega
          have hx0 : (0 : Int) ≤ (x.toNat : Int) / 16 := by omega
          have hy1 : (x.toNat : Int) % 16 < 16 := by omega
          have hy0 : (0 : Int) ≤ (x.toNat : Int) % 16 := by omega
          have q1 : x.toNat / 16 < 16 := by have := x.toNat_lt; omega
          have q2 : x.toNat % 16 < 16 := by omega
          have hw1 : IntKind.u8.wrap ((x.toNat : Int) / 16) = (x.toNat : Int) / 16 := wrap8 hx0 (by omega)
          have hw2 : IntKind.u8.wrap ((x.toNat : Int) % 16) = (x.toNat : Int) % 16 := wrap8 hy0 (by omega)
          have hm : (x.toNat : Int).tmod 16 = (x.toNat : Int) % 16 := Int.tmod_eq_emod_of_nonneg (by omega)
          have HLen : Hid ((hexs (bs.take k)).length + 2 ≤ 70368744177664) := Lib.hid (by rw [hexs_length, List.length_take]; omega)
          clear hx hch
          go_wp2_with fail
          go_region_law
            (first
              | (refine step_bytes (wr := wr.drew) (by rfl) _ _ (by rfl) (.slice ta (hexs (bs.take k)).length tc) (hexs (bs.take k)) (by rfl) HRow.out [dg (x.toNat / 16) q1, dg (x.toNat % 16) q2] (by rfl) (by simp) HLen.out ?_; intro g5 cap5 w5 hr5 hc5 hat5; have HR5 := Lib.hid hr5; have HC5 := Lib.hid hc5; have HA5 := Lib.hid hat5; clear hr5 hc5 hat5))
          all_goals
            have HF : Hid (hexs (bs.take (k + 1)) = hexs (bs.take k) ++ [dg (x.toNat / 16) q1, dg (x.toNat % 16) q2]) := Lib.hid (by rw [HT.out, hexs_snoc, ← digit_get (x.toNat / 16) q1 q1, ← digit_get (x.toNat % 16) q2 q2]; simp)
            have HG : Hid (w.heap.size ≤ g5) := Lib.hid (HA5.out.elim (fun e => HFr.out _ e) (fun e => by have h1 := HCh.out.size; have h2 : wr.drew.heap.size = wr.heap.size := rfl; omega))
            have HC6 : Hid (Chg (fun _ => False) w w5) := Lib.hid (HCh.out.drew.trans HC5.out (fun x e => .inr (HFr.out x e)))
            go_wp2_with fail
            go_roundg (bs.length - (k + 1))
            case measure => have := Hg.out; omega
            case rel =>
              refine ⟨k + 1, _, by omega, rfl, by go_num, rfl, ?_, fun g e => (by simp only [Value.ownBlock, Option.some.injEq] at e; rw [← e]; exact HG.out), HC6.out⟩
              rw [HF.out, List.length_append]; exact HR5.out
        · have hkn : k = bs.length := by omega
          subst hkn
          have HS : Hid (SeesB wr (.slice ta (hexs bs).length tc) (hexs bs)) := Lib.hid (SeesB.of_row (by have := HRow.out; rw [List.take_length] at this; exact this))
          have hcv := HS.out.conv
          have hln : (hexs (bs.take bs.length)).length = (hexs bs).length := by rw [List.take_length]
          have HE : Hid (hexB bs = hexs bs) := Lib.hid (by unfold hexB; rw [if_neg (fun e => HZ.out (by rw [e]; rfl))])
          rw [hln]
          clear HRow Hg HFr hln
          go_wp2_with fail
          go_ret
          exact ⟨by rw [HE.out]; rfl, HCh.out⟩
end Go.Proofs.YteejkkidnohcfaaGreatDoor
