/- Walks: the document's digit and Unhex. -/
import Derived.Test.YteejkkidnohcfaaDoorW5
import Derived.Test.YteejkkidnohcfaaDoorW3
namespace Go.Proofs.YteejkkidnohcfaaDoor
open Go Go.RowKit Go.Maps

def undI (c : UInt8) : Int := match undig c with | some n => (n : Int) | none => -1
set_option maxRecDepth 100000 in
set_option maxHeartbeats 4000000 in
theorem digit_any (w : World) (c : UInt8) : Calls Tryd.prog 32 #[.int .u8 c.toNat] w fun e w' => e = .returned (.int .i64 (undI c)) ∧ w = w' := by
  go_enter Tryd.func32, Tryd.ntmps32
  go_wp2_with fail
  go_loopg [3] 16 (fun gm iv wr => ∃ k : Nat, k ≤ 16 ∧ gm = 16 - k ∧ iv = .int .i64 k ∧ w = wr ∧ ∀ j, j < k → hexd j ≠ c)
  case atStart => exact ⟨0, by omega, rfl, rfl, rfl, fun j hj => by omega⟩
  case round =>
    obtain ⟨k, hk, hg, rfl, rfl, hall⟩ := hrel
    have HA := Lib.hid hall
    have Hg := Lib.hid hg
    clear hall hg
    by_cases hlt : k < 16
    · have hki : (k : Int) < 16 := by omega
      have hk0 : (0 : Int) ≤ (k : Int) := by omega
      by_cases he : hexd k = c
      · have hq : (((ByteArray.mk #[48, 49, 50, 51, 52, 53, 54, 55, 56, 57, 97, 98, 99, 100, 101, 102])[k]'hlt).toNat == c.toNat) = true := by rw [digit_get k hlt hlt, he, beq_iff_eq]
        have HU : Hid (undI c = (k : Int)) := Lib.hid (by unfold undI; rw [← he, undig_hexd k hlt])
        clear he
        go_wp2_with fail
        go_ret
        exact ⟨by rw [HU.out]; rfl, rfl⟩
      · have hq : (((ByteArray.mk #[48, 49, 50, 51, 52, 53, 54, 55, 56, 57, 97, 98, 99, 100, 101, 102])[k]'hlt).toNat == c.toNat) = false := by
          rw [digit_get k hlt hlt, beq_eq_false_iff_ne]
          exact fun e => he (UInt8.toNat_inj.1 e)
        have HE := Lib.hid he
        clear he
        go_wp2_with fail
        go_roundg (16 - (k + 1))
        case measure => have := Hg.out; omega
        case rel =>
          refine ⟨k + 1, by omega, rfl, by go_num, rfl, fun j hj => ?_⟩
          rcases Nat.lt_or_ge j k with h | h
          · exact HA.out j h
          · rw [show j = k by omega]; exact HE.out
    · have HU : Hid (undI c = -1) := Lib.hid (by
        unfold undI
        cases hd : undig c with
        | none => rfl
        | some n => exact (HA.out n (by have := undig_lt hd; omega) (hexd_undig hd)).elim)
      go_wp2_with fail
      go_ret
      exact ⟨by rw [HU.out]; rfl, rfl⟩

set_option maxRecDepth 100000 in
set_option maxHeartbeats 4000000 in
theorem runhex_odd (w : World) (s : ByteArray) (e1 : (s.toList == [45]) = false) (h2 : s.size ≠ 0) (h3 : s.size % 2 = 1) (hm : s.size ≤ 1073741824) : Calls Tryd.prog 16 #[.string s] w fun e w' => e = .returned (.tuple #[.slice none 0 0, .int .i64 201]) ∧ w = w' := by
  have e2 : ((s.size : Int) == 0) = false := by rw [beq_eq_false_iff_ne]; omega
  have e3 : ((s.size : Int) % 2 == 1) = true := by rw [beq_iff_eq]; omega
  clear h2
  go_enter Tryd.func16, Tryd.ntmps16
  go_wp2
  go_ret2
  exact ⟨rfl, rfl⟩

set_option maxRecDepth 100000 in
set_option maxHeartbeats 4000000 in
theorem runhex_even (w : World) (s : ByteArray) (e1 : (s.toList == [45]) = false) (h2 : s.size ≠ 0) (h3 : s.size % 2 = 0) (hm : s.size ≤ 1073741824) :
    Calls Tryd.prog 16 #[.string s] w fun e w' => (unpairs s.data.toList = none ∧ e = .returned (.tuple #[.slice none 0 0, .int .i64 201]) ∨ ∃ a c bs, unpairs s.data.toList = some bs ∧ e = .returned (.tuple #[.slice a bs.length c, .int .i64 0]) ∧ w'.ownsRow 0 5 1 (.slice a bs.length c) bs.length (bVs bs) ∧ ∀ g, (Value.slice a bs.length c).ownBlock = some g → w.heap.size ≤ g) ∧ Chg (fun _ => False) w w' := by
  obtain ⟨i1, hi', hz0, hz1, hz2⟩ := info_parts info5
  have e2 : ((s.size : Int) == 0) = false := by rw [beq_eq_false_iff_ne]; omega
  have e3 : ((s.size : Int) % 2 == 1) = false := by rw [beq_eq_false_iff_ne]; omega
  have hsz : s.data.toList.length = s.size := by simp
  have HSz := Lib.hid hsz
  clear h2 hsz
  go_enter Tryd.func16, Tryd.ntmps16
  go_wp2_with fail
  go_loopg [4, 5, 6, 7] s.size (fun gm bv iv _ _ wr => ∃ (i : Nat) (bs : Bytes) (a : Option Addr) (c : Nat), i ≤ s.size ∧ i % 2 = 0 ∧ gm = s.size - i ∧ iv = .int .i64 i ∧ bv = .slice a bs.length c ∧ hexs bs = s.data.toList.take i ∧ wr.ownsRow 0 5 1 (.slice a bs.length c) bs.length (bVs bs) ∧ (∀ g, (Value.slice a bs.length c).ownBlock = some g → w.heap.size ≤ g) ∧ Chg (fun _ => False) w wr)
  case atStart => exact ⟨0, [], none, 0, by omega, rfl, rfl, rfl, rfl, rfl, World.ownsRow_nil _ _ _ _, fun g e => (by simp [Value.ownBlock] at e), Chg.refl _ _⟩
  case round =>
    obtain ⟨i, bs, a, c, hi, hev, hg, rfl, rfl, hbs, hrow, hfr, hch⟩ := hrel
    have Hg := Lib.hid hg
    have HBs := Lib.hid hbs
    have HRow := Lib.hid hrow
    have HFr := Lib.hid hfr
    have HCh := Lib.hid hch
    have hlb : bs.length ≤ 1073741824 := by have h1 := congrArg List.length hbs; rw [hexs_length, List.length_take] at h1; omega
    clear hg hbs hrow hfr hch
    by_cases hlt : i < s.size
    · have hl2 : i + 1 < s.size := by omega
      have hki : (i : Int) < (s.size : Int) := by omega
      have hk0 : (0 : Int) ≤ (i : Int) := by omega
      have hki2 : (i : Int) + 1 < (s.size : Int) := by omega
      have hk02 : (0 : Int) ≤ (i : Int) + 1 := by omega
      have hG1 : Hid (s.data.toList[i]? = some (s[i]'hlt)) := Lib.hid (by rw [List.getElem?_eq_getElem (by simpa using hlt)]; rfl)
      have hG2 : Hid (s.data.toList[i + 1]? = some (s[i + 1]'hl2)) := Lib.hid (by rw [List.getElem?_eq_getElem (by simpa using hl2)]; rfl)
      cases hd1 : undig (s[i]'hlt) with
      | none =>
        have HF : Hid (unpairs s.data.toList = none) := Lib.hid (unpairs_bad hG1.out hd1)
        have HU : Hid (undI (s[i]'hlt) = -1) := Lib.hid (by unfold undI; rw [hd1])
        clear hd1
        go_wp2_with (go_at_call 32; refine (digit_any _ _).mono ?_; rintro e w5 ⟨rfl, rfl⟩; rw [HU.out])
        go_wp2_with (go_at_call 32; refine (digit_any _ _).mono ?_; rintro e w5 ⟨rfl, rfl⟩)
        go_ret2
        exact ⟨.inl ⟨HF.out, rfl⟩, HCh.out⟩
      | some d1 =>
        have HU : Hid (undI (s[i]'hlt) = (d1 : Int)) := Lib.hid (by unfold undI; rw [hd1])
        have hn1 : ¬ (d1 : Int) < 0 := by omega
        have hl1 : d1 < 16 := undig_lt hd1
        have HD1 := Lib.hid hd1
        clear hd1
        cases hd2 : undig (s[i + 1]'hl2) with
        | none =>
          have HF : Hid (unpairs s.data.toList = none) := Lib.hid (unpairs_bad hG2.out hd2)
          have HU2 : Hid (undI (s[i + 1]'hl2) = -1) := Lib.hid (by unfold undI; rw [hd2])
          clear hd2
          go_wp2_with (go_at_call 32; refine (digit_any _ _).mono ?_; rintro e w5 ⟨rfl, rfl⟩; rw [HU.out])
          go_wp2_with (go_at_call 32; refine (digit_any _ _).mono ?_; rintro e w5 ⟨rfl, rfl⟩; rw [HU2.out])
          go_ret2
          exact ⟨.inl ⟨HF.out, rfl⟩, HCh.out⟩
        | some d2 =>
          have HU2 : Hid (undI (s[i + 1]'hl2) = (d2 : Int)) := Lib.hid (by unfold undI; rw [hd2])
          have hn2 : ¬ (d2 : Int) < 0 := by omega
          have hlt2 : d2 < 16 := undig_lt hd2
          have HD2 := Lib.hid hd2
          obtain ⟨x, hx⟩ : ∃ x : UInt8, x = (16 * d1 + d2).toUInt8 := ⟨_, rfl⟩
          have hxn : x.toNat = 16 * d1 + d2 := by rw [hx, Nat.toUInt8_eq, UInt8.toNat_ofNat']; omega
          have hw : IntKind.u8.wrap (16 * (d1 : Int) + (d2 : Int)) = (x.toNat : Int) := by rw [wrap8 (by omega) (by omega)]; omega
          have HXn := Lib.hid hxn
          clear hd2 hx hxn
          go_wp2_with (go_at_call 32; refine (digit_any _ _).mono ?_; rintro e w5 ⟨rfl, rfl⟩; rw [HU.out])
          go_wp2_with (first
            | (go_at_call 32; refine (digit_any _ _).mono ?_; rintro e w5 ⟨rfl, rfl⟩; rw [HU2.out])
            | (at_builtin; refine wpList_append_lies _ rfl _ _ _ rfl 0 5 i1 (.int .u8 0) 1 1 Tryd.underlying22 hi' hz0 hz1 hz2 rfl (by omega) (.slice a bs.length c) bs.length (bVs bs) (by rfl) (HRow.out.alloc _) ⟨wr.heap.size, 0, none⟩ 1 1 (bVs [x]) (by rfl) (by rfl) (World.news_of_block (cs := #[.int .u8 x.toNat]) (t := 5) (fr := (0, 0)) (heap_alloc_new wr _)) oneCell_bVs (by omega) (by unfold maxLen; omega) (by omega) (Nat.zero_le _) (wr.heap.size + 1) (Array.size_push _) ?_; intro g' cap' w6 hrow6 hgrow6 hat6 hlt6; have HR6 := Lib.hid hrow6; have HG6 := Lib.hid hgrow6; have HA6 := Lib.hid hat6; clear hrow6 hgrow6 hat6)
            | fail)
          go_roundg (s.size - (i + 2))
          case measure => have := Hg.out; omega
          case rel =>
            have hcu : Chg (fun k => (Value.slice a bs.length c).ownBlock = some k) wr w6 := ((Chg.refl _ wr).alloc _).grown HG6.out (fun k e => .inl e)
            refine ⟨i + 2, bs ++ [x], _, cap', by omega, by omega, rfl, by go_num, by rw [List.length_append]; rfl, ?_, by rw [List.length_append]; have := HR6.out; simpa [bVs] using this, ?_, HCh.out.trans hcu (fun y e => .inr (HFr.out y e))⟩
            · have h1 : s.data.toList.take (i + 2) = s.data.toList.take i ++ [s[i]'hlt] ++ [s[i + 1]'hl2] := by
                rw [show i + 2 = i + 1 + 1 from rfl, take_snoc hG2.out, take_snoc hG1.out]
              have h2 : x.toNat / 16 = d1 := by have := HXn.out; omega
              have h3 : x.toNat % 16 = d2 := by have := HXn.out; omega
              rw [h1, hexs_snoc, HBs.out, h2, h3, hexd_undig HD1.out, hexd_undig HD2.out]
            · intro g e
              rw [List.length_append] at e
              simp only [Value.ownBlock, Option.some.injEq] at e
              rcases HA6.out with e2 | e2
              · exact HFr.out g (by rw [← e]; exact e2)
              · have := HCh.out.size; omega
    · have hkn : i = s.size := by omega
      subst hkn
      have HF : Hid (unpairs s.data.toList = some bs) := Lib.hid (by have := HBs.out; rw [← HSz.out, List.take_length] at this; rw [← this]; exact unpairs_hexs bs)
      clear Hg
      go_wp2_with fail
      go_ret2
      exact ⟨.inr ⟨a, c, bs, HF.out, rfl, HRow.out, HFr.out⟩, HCh.out⟩

set_option maxRecDepth 100000 in
set_option maxHeartbeats 4000000 in
theorem runhex_dash (w : World) : Calls Tryd.prog 16 #[.string ⟨#[45]⟩] w fun e w' => e = .returned (.tuple #[.slice none 0 0, .int .i64 0]) ∧ w = w' := by
  go_enter Tryd.func16, Tryd.ntmps16
  go_wp2
  go_ret2
  exact ⟨rfl, rfl⟩
set_option maxRecDepth 100000 in
set_option maxHeartbeats 4000000 in
theorem runhex_nil (w : World) : Calls Tryd.prog 16 #[.string ⟨#[]⟩] w fun e w' => e = .returned (.tuple #[.slice none 0 0, .int .i64 201]) ∧ w = w' := by
  go_enter Tryd.func16, Tryd.ntmps16
  go_wp2
  go_ret2
  exact ⟨rfl, rfl⟩
theorem runhex_any (w : World) (s : ByteArray) (hm : s.size ≤ 1073741824) :
    Calls Tryd.prog 16 #[.string s] w fun e w' => UnhexAns w w' s.data.toList e ∧ Chg (fun _ => False) w w' := by
  have hs : s.toList = s.data.toList := Lib.toList_data s
  have hsz : s.data.toList.length = s.size := by simp
  by_cases h1 : s.data.toList = [45]
  · have e1 : s = ⟨#[45]⟩ := by
      obtain ⟨⟨l⟩⟩ := s
      simp only at h1
      rw [h1]
    subst e1
    refine (runhex_dash w).mono ?_
    rintro e w' ⟨rfl, rfl⟩
    exact ⟨.inr ⟨none, [], 0, rfl, rfl, World.ownsRow_nil _ _ _ _, fun g e => (by simp [Value.ownBlock] at e)⟩, Chg.refl _ _⟩
  · by_cases h2 : s.data.toList = []
    · have e1 : s = ⟨#[]⟩ := by
        obtain ⟨⟨l⟩⟩ := s
        simp only at h2
        rw [h2]
      subst e1
      refine (runhex_nil w).mono ?_
      rintro e w' ⟨rfl, rfl⟩
      exact ⟨.inl ⟨rfl, rfl⟩, Chg.refl _ _⟩
    · have b1 : (s.toList == [45]) = false := by rw [hs, beq_eq_false_iff_ne]; exact h1
      have b2 : s.size ≠ 0 := fun e => h2 (List.eq_nil_of_length_eq_zero (by omega))
      have hu : unhexB s.data.toList = unpairs s.data.toList := by unfold unhexB; rw [if_neg h1, if_neg h2]
      unfold UnhexAns
      rw [hu]
      rcases Nat.mod_two_eq_zero_or_one s.size with h3 | h3
      · refine (runhex_even w s b1 b2 h3 hm).mono ?_
        rintro e w' ⟨h | ⟨a, c, bs, h4, rfl, h6, h7⟩, hc⟩
        · exact ⟨.inl h, hc⟩
        · exact ⟨.inr ⟨a, bs, c, h4, rfl, h6, h7⟩, hc⟩
      · refine (runhex_odd w s b1 b2 h3 hm).mono ?_
        rintro e w' ⟨rfl, rfl⟩
        exact ⟨.inl ⟨unpairs_odd (by omega), rfl⟩, Chg.refl _ _⟩
end Go.Proofs.YteejkkidnohcfaaDoor
