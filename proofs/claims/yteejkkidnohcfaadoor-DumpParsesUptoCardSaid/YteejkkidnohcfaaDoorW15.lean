/- Walk: the law DumpHexes. -/
import Derived.Test.YteejkkidnohcfaaDoorW14
import Derived.Test.YteejkkidnohcfaaDoorX1
import Derived.Deep.AppendLies
namespace Go.Proofs.YteejkkidnohcfaaDoor
open Go Go.RowKit Go.Maps

theorem sees_of_own {w : World} {B g n cap : Nat} {zs : List Value} {bs : Bytes} (h : w.ownsRow B 5 1 (.slice (some ⟨g, 0, none⟩) n cap) n zs) (hz : ∀ (j : Nat) (x : UInt8), bs[j]? = some x → zs[j]? = some (bV x)) (c : Nat) : SeesB w (.slice (some ⟨g, 0, none⟩) bs.length c) bs :=
  ⟨_, c, rfl, (fun e => by cases e), fun ad e j y hy => by
    cases e
    exact h.cells rfl j _ (hz j y hy)⟩

theorem two_cells {w : World} {g : Nat} {x y u : Value} {e : TypeId} {fz : Nat × Nat} (h : w.heap[g]? = some (.cells #[x, y] e fz)) {j : Nat} (hu : [x, y][j]? = some u) : w.cell? ((⟨g, 0, none⟩ : Addr).add j) = some u := by
  rw [addr_add, Nat.zero_add]
  simp only [World.cell?, h]
  have : (#[x, y] : Array Value)[j]? = some u := by rw [← Array.getElem?_toList]; exact hu
  simpa using this

theorem new_of {w : World} {B n b : Nat} {v : Value} {zs : List Value} (h : w.ownsRow B 5 1 v n zs) (hn : 0 < n) (hb : ∀ k, v.ownBlock = some k → b ≤ k) : ∃ g c, v = .slice (some ⟨g, 0, none⟩) n c ∧ n ≤ c ∧ b ≤ g := by
  obtain ⟨a, c, rfl, h1, _, h2⟩ := ownsRow_slice h
  obtain ⟨g, rfl⟩ := h2 hn
  exact ⟨g, c, rfl, h1, hb g rfl⟩

set_option maxRecDepth 100000 in
theorem slice_run (w : World) (g n c m : Nat) (h : m ≤ c) : (Instr.slice 22 (.slice (some ⟨g, 0, none⟩) n c) none (some (.int .i64 (m : Int))) none).run Tryd.prog w = .ok (.slice (some ⟨g, 0, none⟩) m c) w := by
  have hu : Tryd.prog.underlying 22 = some (.slice (Tryd.prog.elem 22)) := by kernel_rfl
  rw [run_slice_h (P := Tryd.prog) w 22 (some ⟨g, 0, none⟩) n c hu .i64 (m : Int) (by omega) (by omega)]
  have he : Tryd.prog.elem 22 = 5 := by kernel_rfl
  rw [he]
  obtain ⟨i1, hi', hz0, hz1, hz2⟩ := info_parts info5
  have hz : (sizeOf 5).run Tryd.prog w = .ok 1 w := by
    first
      | (go_simp; done)
      | (simp [sizeOf, hi', hz1]; done)
      | rfl
  rw [hz]
  simp only [Result.andThen, sliced]
  split <;> simp [Addr.add]

theorem idx_of (a : Int) (n : Nat) (h0 : 0 < n) (h1 : n ≤ 1099511627776) : ∃ j : Nat, j < n ∧ (wrap64 (a.tmod n + n)).tmod n = (j : Int) := by
  have e1 : a.tmod n < n := Int.tmod_lt_of_pos a (by omega)
  have e2 : -(n : Int) < a.tmod n := by
    have h3 : (-a).tmod n < n := Int.tmod_lt_of_pos (-a) (by omega)
    rw [Int.neg_tmod] at h3
    omega
  have e3 : wrap64 (a.tmod n + n) = a.tmod n + n := by unfold wrap64; omega
  rw [e3]
  have e4 : (a.tmod n + n).tmod n < n := Int.tmod_lt_of_pos _ (by omega)
  have e5 : 0 ≤ (a.tmod n + n).tmod n := Int.tmod_nonneg _ (by omega)
  exact ⟨((a.tmod n + n).tmod n).toNat, by omega, by omega⟩

/-- Unhex of a hex text. -/
theorem unhex_back (w : World) (bs : Bytes) (hb : bs.length ≤ 1048576) : Calls Tryd.prog 12 #[.string ⟨(hexB bs).toArray⟩] w fun e w' => ∃ a n c, e = .returned (.tuple #[.slice a n c, .int .i64 0]) ∧ SeesB w' (.slice a n c) bs ∧ Chg (fun _ => False) w w' := by
  have hl := hexB_length bs
  refine (unhex_any w ⟨(hexB bs).toArray⟩ (by show (hexB bs).toArray.size ≤ _; simp; omega)).mono ?_
  rintro e w' ⟨h, hc⟩
  obtain ⟨a, n, c, rfl, hs⟩ := h.read
  have e1 : unhexB (⟨(hexB bs).toArray⟩ : ByteArray).data.toList = some bs := by simp [unhex_hex]
  rw [e1] at hs ⊢
  exact ⟨a, n, c, rfl, hs, hc⟩

set_option maxRecDepth 100000 in
set_option maxHeartbeats 8000000 in
theorem hexes_law (w : World) (hE : Env w) (v : Value) (bs : Bytes) (h : SeesB w v bs) (at' : Int) (x : Int) (hx0 : 0 ≤ x) (hx1 : x < 256) (hmax : bs.length ≤ 9223372036854775807) : Calls Tryd.prog 3 #[v, .int .i64 at', .int .u8 x] w fun e w' => e = .returned (.bool true) ∧ Chg (fun _ => False) w w' := by
  have HE := Lib.hid hE
  have HS := Lib.hid h
  obtain ⟨a, cap, rfl, hn, hcell⟩ := h
  clear hn hcell hE
  by_cases hb : 65536 < bs.length
  · have hbi : (65536 : Int) < (bs.length : Int) := by omega
    clear hb
    go_enter Tryd.func3, Tryd.ntmps3
    go_wp2_with (go_at_call 9; refine (first_any _ HE.out).mono ?_; rintro e w1 ⟨rfl, hc1⟩; have C1 := Lib.hid hc1; clear hc1)
    go_ret
    exact ⟨rfl, C1.out⟩
  · have hbi : ¬ (65536 : Int) < (bs.length : Int) := by omega
    obtain ⟨i1, hi', hz0, hz1, hz2⟩ := info_parts info5
    go_enter Tryd.func3, Tryd.ntmps3
    go_wp2_with (go_at_call 9; refine (first_any _ HE.out).mono ?_; rintro e w1 ⟨rfl, hc1⟩; have C1 := Lib.hid hc1; have HS1 := Lib.hid (HS.out.chg0 hc1); clear hc1)
    refine (bytes_any _ _ bs HS1.out (by omega)).mono ?_
    rintro e w2 ⟨g, cap2, rfl, hg, hown, hc2⟩
    have HG : Hid (w1.heap.size ≤ g) := Lib.hid hg
    have HC12 := Lib.hid hc2
    have C2 := Lib.hid (C1.out.trans hc2 (fun _ f => f.elim))
    have HS2 := Lib.hid (HS1.out.chg0 hc2)
    have HO2 := Lib.hid hown
    clear hg hc2 hown
    have hnew : ∀ k, k = g → w1.heap.size ≤ k := fun k e => e ▸ HG.out
    have hL1 : (w2.alloc (.cells #[.int .u8 201, .int .u8 202] 5)).ownsRow 0 5 1 (.slice (some ⟨g, 0, none⟩) bs.length cap2) bs.length (bVs bs) := World.ownsRow.alloc HO2.out _
    have HO3 := Lib.hid hL1
    have c201 : (w2.alloc (.cells #[.int .u8 201, .int .u8 202] 5)).heap[w2.heap.size]? = some (.cells #[.int .u8 201, .int .u8 202] 5) := heap_alloc_new _ _
    have HC3 := Lib.hid c201
    clear hL1 c201 hnew
    go_wp2_with (at_builtin; refine wpList_append_own_at _ rfl _ _ 22 rfl 0 5 i1 (.int .u8 0) 1 1 Tryd.underlying22 hi' hz0 hz1 hz2 rfl (by decide) (.slice (some ⟨g, 0, none⟩) bs.length cap2) bs.length (bVs bs) (by rfl) HO3.out ⟨w2.heap.size, 0, none⟩ 2 2 [.int .u8 201, .int .u8 202] rfl rfl (fun j u hu => two_cells HC3.out hu) (fun u hu => by simp at hu; rcases hu with rfl | rfl <;> rfl) (by unfold maxLen; omega) (by omega) (Nat.zero_le _) ?_; intro v' w4 hown4 hg4 hnil4 hat4)
    have hb4 : ∀ k, v'.ownBlock = some k → w1.heap.size ≤ k := by
      intro k hk
      rcases hat4 with e | e
      · rw [e] at hk; simp only [Value.ownBlock, Option.some.injEq] at hk; have := HG.out; omega
      · rw [e] at hk
        have h5 := Nat.le_trans HC12.out.size (((Chg.refl (fun _ => False) w2).alloc (.cells #[.int .u8 201, .int .u8 202] 5)).size)
        simp only [Option.some.injEq] at hk
        omega
    have C4 := Lib.hid ((C2.out.alloc (.cells #[.int .u8 201, .int .u8 202] 5)).grown hg4 (fun k e => Or.inr (by simp only [Value.ownBlock, Option.some.injEq] at e; have h1 := C1.out.size; have h2 := HG.out; omega)))
    obtain ⟨g4, c4, rfl, hc4, hg4'⟩ := new_of hown4 (by omega) hb4
    have HO4 := Lib.hid hown4
    have HG4 := Lib.hid hg4'
    clear hown4 hg4 hnil4 hat4 hg4' hb4
    have hn4 : (bs.length : Int) ≤ (c4 : Int) := by omega
    have hn5 : (bs.length : Int) < ((bs.length + 2 : Nat) : Int) := by omega
    have hn6 : (bs.length : Int) + 1 < ((bs.length + 2 : Nat) : Int) := by omega
    have SL4 := Lib.hid (sees_of_own HO4.out (bs := bs) (fun j x hx => by rw [List.getElem?_append_left (by rw [bVs_length]; exact (List.getElem?_eq_some_iff.1 hx).1)]; exact bVs_at hx) c4)
    have kS : ∀ wx, (Instr.slice 22 (.slice (some ⟨g4, 0, none⟩) (bs.length + 2) c4) none (some (.int .i64 (bs.length : Int))) none).run Tryd.prog wx = .ok (.slice (some ⟨g4, 0, none⟩) bs.length c4) wx := fun wx => slice_run wx g4 (bs.length + 2) c4 bs.length (by omega)
    go_wp2_with (fail)
    rw [kS]
    simp only [Result.andThen]
    go_wp2_with (go_at_call 11; refine (hex_any _ _ bs SL4.out (by omega)).mono ?_; rintro e w5 ⟨rfl, hc5⟩; have C45 := Lib.hid hc5; clear hc5)
    go_wp2_with (go_at_call 12; refine (unhex_back _ bs (by omega)).mono ?_)
    rintro e w6 ⟨a6, n6, c6, rfl, hs6, hc6⟩
    have C46 := Lib.hid (C45.out.trans hc6 (fun _ f => f.elim))
    have HS6 := Lib.hid hs6
    clear hs6 hc6
    have HA6 := Lib.hid (HS.out.chg0 (C4.out.trans C46.out (fun _ f => f.elim)))
    go_wp2_with (go_at_call 13; refine (rhex_any _ _ bs HA6.out (by omega)).mono ?_)
    rintro e w7 ⟨rfl, hc7⟩
    have C47 := Lib.hid (C46.out.trans hc7 (fun _ f => f.elim))
    have HS7 := Lib.hid (HS6.out.chg0 hc7)
    clear hc7
    have HA7 := Lib.hid (HS.out.chg0 (C4.out.trans C47.out (fun _ f => f.elim)))
    have SL7 := Lib.hid (SL4.out.chg0 C47.out)
    have HO7 := Lib.hid (ownsRow_chg HO4.out C47.out (fun _ _ f => f.elim))
    have k1' : w7.cell? ((⟨g4, 0, none⟩ : Addr).add bs.length) = some (.int .u8 201) := HO7.out.cells rfl _ _ (by rw [List.getElem?_append_right (by rw [bVs_length]; omega), bVs_length, Nat.sub_self]; rfl)
    have k2' : w7.cell? ((⟨g4, 0, none⟩ : Addr).add (bs.length + 1)) = some (.int .u8 202) := HO7.out.cells rfl _ _ (by rw [List.getElem?_append_right (by rw [bVs_length]; omega), bVs_length, Nat.add_sub_cancel_left]; rfl)
    have k1 : w7.cell? ⟨g4, bs.length, none⟩ = some (.int .u8 201) := by rw [addr_add, Nat.zero_add] at k1'; exact k1'
    have k2 : w7.cell? ⟨g4, bs.length + 1, none⟩ = some (.int .u8 202) := by rw [addr_add, Nat.zero_add] at k2'; exact k2'
    clear k1' k2'
    have C7 := Lib.hid (C4.out.trans C47.out (fun _ f => f.elim))
    go_wp2_with (go_at_call 14; refine (same_any _ _ _ _ _ HS7.out HA7.out).mono ?_; rintro e w' ⟨rfl, rfl⟩; rw [decide_eq_true rfl])
    refine (num_any _ _).mono ?_
    rintro e w' ⟨rfl, rfl⟩
    go_wp2_with (fail)
    refine (same_any _ _ _ _ _ SL7.out HA7.out).mono ?_
    rintro e w' ⟨rfl, rfl⟩
    rw [decide_eq_true rfl]
    by_cases h0 : bs.length = 0
    · have h0i : (bs.length : Int) = 0 := by omega
      have k10 : w7.cell? ⟨g4, 0, none⟩ = some (.int .u8 201) := by rw [h0] at k1; exact k1
      have k20 : w7.cell? ⟨g4, 1, none⟩ = some (.int .u8 202) := by rw [h0] at k2; exact k2
      have HZ := Lib.hid h0
      go_wp2_with (fail)
      go_ret
      exact ⟨rfl, C7.out⟩
    · have h0i : ¬ (bs.length : Int) = 0 := by omega
      have HZ := Lib.hid h0
      obtain ⟨j, hj, hJ⟩ := idx_of at' bs.length (by omega) (by omega)
      obtain ⟨y, hy⟩ : ∃ y, bs[j]? = some y := ⟨_, List.getElem?_eq_getElem hj⟩
      obtain ⟨z, hz⟩ := xor_lo y hx0 hx1
      have k3 : w7.cell? ⟨g4, j, none⟩ = some (.int .u8 (y.toNat : Int)) := by
        have k3' : w7.cell? ((⟨g4, 0, none⟩ : Addr).add j) = some (bV y) := HO7.out.cells rfl _ _ (by rw [List.getElem?_append_left (by rw [bVs_length]; exact hj)]; exact bVs_at hy)
        rw [addr_add, Nat.zero_add] at k3'; exact k3'
      have k4 : w7.frozen? ⟨g4, j, none⟩ = false := HO7.out.frozenAt j
      have hj2 : (j : Int) < (bs.length : Int) + 2 := by omega
      have HO8 := Lib.hid (HO7.out.stored j (.int .u8 (z.toNat : Int))).1
      have C8 := Lib.hid (C7.out.setCell (p := ⟨g4, j, none⟩) (Or.inr (by have h1 := C1.out.size; have h2 := HG4.out; show w.heap.size ≤ g4; omega)) (.int .u8 (z.toNat : Int)))
      have SL8 : Hid (SeesB (w7.setCell ⟨g4, j, none⟩ (.int .u8 (z.toNat : Int))) (.slice (some ⟨g4, 0, none⟩) (bs.set j z).length c4) (bs.set j z)) := Lib.hid (sees_of_own HO8.out (fun i x hx => by
        have hi : i < bs.length := by have := (List.getElem?_eq_some_iff.1 hx).1; simpa using this
        rw [List.getElem?_set] at hx ⊢
        by_cases e : j = i
        · subst e
          rw [if_pos rfl, if_pos hj] at hx
          rw [if_pos rfl, if_pos (by simp [bVs_length]; omega)]
          cases hx; rfl
        · rw [if_neg e] at hx ⊢
          rw [List.getElem?_append_left (by rw [bVs_length]; exact hi)]
          exact bVs_at hx) c4)
      rw [List.length_set] at SL8
      have HLs : Hid ((bs.set j z).length = bs.length) := Lib.hid List.length_set
      obtain ⟨bz, hbz⟩ : ∃ bz, bz = bs.set j z := ⟨_, rfl⟩
      rw [← hbz] at SL8 HLs
      clear h0 hj hy hbz
      go_wp2_with (fail)
      refine (bytes_any _ _ bz SL8.out (by have := HLs.out; omega)).mono ?_
      rintro e w9 ⟨g9, c9, rfl, -, ho9, hc9⟩
      have SL9 := Lib.hid (SL8.out.chg0 hc9)
      have SD9 := Lib.hid (SeesB.of_row ho9)
      have C9 := Lib.hid (C8.out.trans hc9 (fun _ f => f.elim))
      clear ho9 hc9
      go_wp2_with (go_at_call 11; refine (hex_any _ _ bz SL9.out (by have := HLs.out; omega)).mono ?_)
      rintro e w10 ⟨rfl, hc10⟩
      have SD10 := Lib.hid (SD9.out.chg0 hc10)
      have C10 := Lib.hid (C9.out.trans hc10 (fun _ f => f.elim))
      clear hc10
      go_wp2_with (go_at_call 13; refine (rhex_any _ _ bz SD10.out (by have := HLs.out; omega)).mono ?_; rintro e w11 ⟨rfl, hc11⟩; have C11 := Lib.hid (C10.out.trans hc11 (fun _ f => f.elim)); clear hc11)
      go_ret
      exact ⟨rfl, C11.out⟩
end Go.Proofs.YteejkkidnohcfaaDoor
