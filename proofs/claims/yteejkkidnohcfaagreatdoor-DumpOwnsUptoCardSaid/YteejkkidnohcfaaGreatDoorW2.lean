/- Walks: Hex. -/
import Derived.Test.YteejkkidnohcfaaGreatDoorW1
import Derived.Test.YteejkkidnohcfaaGreatDoorShelf
namespace Go.Proofs.YteejkkidnohcfaaGreatDoor
open Go Go.RowKit Go.Maps

theorem take_snoc {α : Type} {zs : List α} {k : Nat} {x : α} (h : zs[k]? = some x) : zs.take (k + 1) = zs.take k ++ [x] := by
  rw [List.take_add_one, h]; rfl
theorem chg_below {w w' : World} (h : Below w.heap.size w w') : Chg (fun _ => False) w w' := (Chg.refl _ w).below h
theorem below_cell {B : Nat} {w w' : World} {a : Addr} {v : Value} (h : Below B w w') (hv : w.cell? a = some v) (hB : a.block < B) : w'.cell? a = some v :=
  (World.cell?_of_block (w := w) (w' := w') (a := a) (h.block a.block hB)).trans hv

theorem digit_get (n : Nat) (h : n < 16) (p : n < (ByteArray.mk #[48, 49, 50, 51, 52, 53, 54, 55, 56, 57, 97, 98, 99, 100, 101, 102]).size) : (ByteArray.mk #[48, 49, 50, 51, 52, 53, 54, 55, 56, 57, 97, 98, 99, 100, 101, 102])[n] = hexd n := by
  have : ∀ m : Fin 16, (ByteArray.mk #[48, 49, 50, 51, 52, 53, 54, 55, 56, 57, 97, 98, 99, 100, 101, 102])[m.val]'m.isLt = hexd m.val := by decide +kernel
  exact this ⟨n, h⟩
theorem bVs_snoc (l : Bytes) (c : UInt8) : bVs (l ++ [c]) = bVs l ++ [.int .u8 c.toNat] := by simp [bVs, bV]
theorem hexs_snoc (l : Bytes) (x : UInt8) : hexs (l ++ [x]) = hexs l ++ [hexd (x.toNat / 16)] ++ [hexd (x.toNat % 16)] := by rw [hexs_append]; simp [hexs]

set_option maxRecDepth 100000 in
set_option maxHeartbeats 4000000 in
theorem hex_any (w : World) (v : Value) (bs : Bytes) (h : SeesB w v bs) (hl : bs.length ≤ 1073741824) :
    Calls Tryz.prog 16 #[v] w fun e w' => e = .returned (.string ⟨(hexB bs).toArray⟩) ∧ Chg (fun _ => False) w w' := by
  obtain ⟨a, cap, rfl, hn, hc⟩ := h
  have Hn := Lib.hid hn
  have Hc := Lib.hid hc
  clear hn hc
  by_cases hz : bs.length = 0
  · have hb : ((bs.length : Int) == 0) = true := by rw [beq_iff_eq]; omega
    obtain rfl : bs = [] := List.eq_nil_of_length_eq_zero hz
    clear hz
    go_enter Tryz.func16, Tryz.ntmps16
    go_wp2
    go_ret
    exact ⟨rfl, Chg.refl _ _⟩
  · have hb : ((bs.length : Int) == 0) = false := by rw [beq_eq_false_iff_ne]; omega
    obtain ⟨B, hB⟩ : ∃ B, B = w.heap.size := ⟨_, rfl⟩
    have HB := Lib.hid hB
    cases a with
    | none => exact (hz (by rw [Hn.out rfl]; rfl)).elim
    | some ad =>
      have HL : ad.block < B := by
        obtain ⟨x, hx⟩ : ∃ x, bs[0]? = some x := ⟨_, List.getElem?_eq_getElem (by omega)⟩
        have := World.block_lt_of_cell? _ _ (Hc.out ad rfl 0 x hx)
        rw [block_add] at this
        rw [hB]; exact this
      have HZ := Lib.hid hz
      clear hB hz
      go_enter Tryz.func16, Tryz.ntmps16
      go_wp2_with (first
        | (go_at_call 35; refine (Tryz.Builder_Grow_fresh B w.heap.size (2 * bs.length) _ (by rw [HB.out]; exact Nat.le_refl _) (heap_alloc_new w _) (by rw [HB.out]; simp) (by omega)).mono ?_; rintro e w1 ⟨rfl, hb1, hbl1⟩)
        | fail)
      have HI1 : Hid (Lib.IsBuilder 75 5 B w.heap.size (bVs (hexs (bs.take 0))) w1) := Lib.hid (Or.inr hb1)
      have HBL : Hid (Below B w w1) := Lib.hid (((Below.refl B w).alloc (by rw [HB.out]; exact Nat.le_refl _) _).trans hbl1)
      clear hb1 hbl1
      go_loopg [5, 15] bs.length (fun gm xv iv wr => ∃ k : Nat, k ≤ bs.length ∧ gm = bs.length - k ∧ iv = .int .i64 k ∧ Lib.IsBuilder 75 5 B w.heap.size (bVs (hexs (bs.take k))) wr ∧ Below B w wr)
      case atStart => exact ⟨0, by omega, rfl, rfl, HI1.out, HBL.out⟩
      case round =>
        obtain ⟨k, hk, hg, rfl, hi, hbl⟩ := hrel
        have Hg := Lib.hid hg
        have HI := Lib.hid hi
        have HBl := Lib.hid hbl
        clear hg hi
        by_cases hlt : k < bs.length
        · obtain ⟨x, hx⟩ : ∃ x, bs[k]? = some x := ⟨_, List.getElem?_eq_getElem hlt⟩
          have HT := Lib.hid (take_snoc hx)
          have cx : wr.cell? (ad.add k) = some (.int .u8 x.toNat) := below_cell hbl (Hc.out ad rfl k x hx) (by rw [block_add]; exact HL)
          have hki : (k : Int) < (bs.length : Int) := by omega
          have hk0 : (0 : Int) ≤ (k : Int) := by omega
          have hx1 : (x.toNat : Int) / 16 < 16 := by have := x.toNat_lt; omega
          have hx0 : (0 : Int) ≤ (x.toNat : Int) / 16 := by omega
          have hy1 : (x.toNat : Int) % 16 < 16 := by omega
          have hy0 : (0 : Int) ≤ (x.toNat : Int) % 16 := by omega
          have HLt : Hid (x.toNat < 256) := Lib.hid x.toNat_lt
          have HLen : Hid ((bVs (hexs (bs.take k))).length + 2 ≤ 140737488355328) := Lib.hid (by rw [bVs_length, hexs_length, List.length_take]; omega)
          clear hx hbl
          go_wp2_with (go_at_call 36; refine (Tryz.Builder_WriteByte B w.heap.size _ _ _ HI.out (by have := HLen.out; omega) (by rw [HB.out]; exact HBl.out.size)).mono ?_; rintro e w2 ⟨rfl, hi2, hb2⟩; have HI2 := Lib.hid hi2; have HB2 := Lib.hid (HBl.out.trans hb2); clear hi2 hb2)
          go_wp2_with (go_at_call 36; refine (Tryz.Builder_WriteByte B w.heap.size _ _ _ (Or.inr HI2.out) (by rw [List.length_append]; have := HLen.out; simp only [List.length_cons, List.length_nil]; omega) (by rw [HB.out]; exact HB2.out.size)).mono ?_; rintro e w3 ⟨rfl, hi3, hb3⟩; have HI3 := Lib.hid hi3; have HB3 := Lib.hid (HB2.out.trans hb3); clear hi3 hb3)
          go_roundg (bs.length - (k + 1))
          case measure => have := Hg.out; omega
          case rel =>
            refine ⟨k + 1, by omega, rfl, by go_num, Or.inr ?_, HB3.out⟩
            rw [HT.out, hexs_snoc, bVs_snoc, bVs_snoc, ← digit_get (x.toNat / 16) (by have := HLt.out; omega) (by have := HLt.out; show x.toNat / 16 < 16; omega), ← digit_get (x.toNat % 16) (by omega) (by show x.toNat % 16 < 16; omega)]
            exact HI3.out
        · have hkn : k = bs.length := by omega
          subst hkn
          have HI' : Hid (Lib.IsBuilder 75 5 B w.heap.size (Lib.byteCells (hexs bs)) wr) := Lib.hid (by have := HI.out; rw [List.take_length] at this; exact this)
          clear HI Hg
          go_wp2_with (go_at_call 34; refine (Tryz.Builder_String_any B w.heap.size (hexs bs) _ HI'.out (by rw [HB.out]; exact HBl.out.size)).mono ?_; rintro e w2 ⟨rfl, hb2⟩; have HB2 := Lib.hid (HBl.out.trans hb2); clear hb2)
          go_ret
          refine ⟨?_, chg_below (by have := HB2.out; rw [HB.out] at this; exact this)⟩
          have : hexB bs = hexs bs := by unfold hexB; rw [if_neg (fun e => HZ.out (by rw [e]; rfl))]
          rw [this]
          rfl
end Go.Proofs.YteejkkidnohcfaaGreatDoor
