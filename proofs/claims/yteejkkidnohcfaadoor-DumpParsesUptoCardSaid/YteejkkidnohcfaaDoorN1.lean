/- Walks: the document's number and space. -/
import Derived.Test.YteejkkidnohcfaaDoorB5
import Derived.Test.YteejkkidnohcfaaDoorW13
namespace Go.Proofs.YteejkkidnohcfaaDoor
open Go Go.RowKit Go.Maps

theorem byte_get {s : ByteArray} {i : Nat} (h : i < s.size) : s.data.toList[i]? = some (s[i]'h) := by rw [List.getElem?_eq_getElem (by simpa using h)]; rfl

set_option maxRecDepth 100000 in
set_option maxHeartbeats 4000000 in
theorem rnumber_bad (w : World) (s : ByteArray) (h : s.size = 0 ∨ 10 < s.size ∨ (1 < s.size ∧ s.data.toList[0]? = some 48)) :
    Calls Tryd.prog 55 #[.string s] w fun e w' => e = .returned (.int .i64 (-1)) ∧ w = w' := by
  by_cases h0 : s.size = 0
  · have e0 : ((s.size : Int) == 0) = true := by rw [beq_iff_eq]; omega
    have g1 : ¬ (10 : Int) < (s.size : Int) := by omega
    clear h h0
    go_enter Tryd.func55, Tryd.ntmps55
    go_wp2
    go_ret
    exact ⟨rfl, rfl⟩
  · have e0 : ((s.size : Int) == 0) = false := by rw [beq_eq_false_iff_ne]; omega
    by_cases h1 : 10 < s.size
    · have g1 : (10 : Int) < (s.size : Int) := by omega
      clear h h0
      go_enter Tryd.func55, Tryd.ntmps55
      go_wp2
      go_ret
      exact ⟨rfl, rfl⟩
    · have g1 : ¬ (10 : Int) < (s.size : Int) := by omega
      obtain ⟨h2, h3⟩ : 1 < s.size ∧ s.data.toList[0]? = some 48 := by rcases h with h | h | h; exact (h0 h).elim; exact (h1 h).elim; exact h
      have g2 : (1 : Int) < (s.size : Int) := by omega
      have hp : 0 < s.size := by omega
      have g3 : (0 : Int) < (s.size : Int) := by omega
      have e3 : ((((s[0]'hp).toNat : Nat) : Int) == 48) = true := by
        rw [byte_get hp] at h3
        injection h3 with h3
        rw [h3]; rfl
      clear h h0 h1 h3
      go_enter Tryd.func55, Tryd.ntmps55
      go_wp2
      go_ret
      exact ⟨rfl, rfl⟩
theorem pow_le10 {k : Nat} (h : k ≤ 10) : 10 ^ k ≤ 10000000000 := by
  have : 10 ^ k ≤ 10 ^ 10 := Nat.pow_le_pow_right (by omega) h
  omega
theorem valB_take {l : Bytes} {k : Nat} {c : UInt8} (h : l[k]? = some c) : valB (l.take (k + 1)) = 10 * valB (l.take k) + (c.toNat - 48) := by rw [take_one h, valB_snoc]

set_option maxRecDepth 100000 in
set_option maxHeartbeats 4000000 in
theorem rnumber_good (w : World) (s : ByteArray) (h0 : s.size ≠ 0) (h1 : s.size ≤ 10) (h2 : ¬ (1 < s.size ∧ s.data.toList[0]? = some 48)) :
    Calls Tryd.prog 55 #[.string s] w fun e w' => e = .returned (.int .i64 (numI s.data.toList)) ∧ w = w' := by
  have e0 : ((s.size : Int) == 0) = false := by rw [beq_eq_false_iff_ne]; omega
  have g1 : ¬ (10 : Int) < (s.size : Int) := by omega
  have hp : 0 < s.size := by omega
  have g3 : (0 : Int) < (s.size : Int) := by omega
  have HN : Hid (s.data.toList ≠ []) := Lib.hid (by intro e; have h := congrArg List.length e; rw [Array.length_toList] at h; exact h0 h)
  have HL : Hid (s.data.toList.length = s.size) := Lib.hid (by simp)
  have HH : Hid (s.data.toList.length ≤ 1 ∨ s.data.toList[0]? ≠ some 48) := Lib.hid (by
    by_cases h : s.data.toList[0]? = some 48
    · left
      rw [Array.length_toList]
      exact Nat.le_of_not_lt (fun h3 => h2 ⟨h3, h⟩)
    · exact .inr h)
  obtain ⟨A, hA⟩ : ∃ A, A = numI s.data.toList := ⟨_, rfl⟩
  rw [← hA]
  have HA := Lib.hid hA
  clear hA
  have key : (1 < s.size ∧ ((((s[0]'hp).toNat : Nat) : Int) == 48) = false) ∨ ¬ 1 < s.size := by
    by_cases h : 1 < s.size
    · left
      refine ⟨h, ?_⟩
      rw [beq_eq_false_iff_ne]
      intro e
      refine h2 ⟨h, ?_⟩
      rw [byte_get hp]
      congr 1
      apply UInt8.toNat_inj.1
      show _ = 48
      omega
    · exact .inr h
  clear h0 h2
  rcases key with ⟨k1, k2⟩ | k1
  case' inl => have g2 : (1 : Int) < (s.size : Int) := by omega
  case' inr => have g2 : ¬ (1 : Int) < (s.size : Int) := by omega
  all_goals
    go_enter Tryd.func55, Tryd.ntmps55
    go_wp2
    go_loop [3, 4] (fun n i => ∃ k : Nat, k ≤ s.size ∧ i = .int .i64 k ∧ n = .int .i64 (valB (s.data.toList.take k) : Nat) ∧ (s.data.toList.take k).all isdig = true) (fun _ i => s.size - (intOf i).toNat)
    case atStart => exact ⟨0, Nat.zero_le _, rfl, rfl, rfl⟩
    case round =>
      obtain ⟨k, hk, rfl, rfl, hall⟩ := hrel
      have HAll := Lib.hid hall
      have hV : valB (s.data.toList.take k) < 10000000000 := by
        have h1 := valB_lt hall
        have h2 : 10 ^ (s.data.toList.take k).length ≤ 10000000000 := pow_le10 (by rw [List.length_take]; omega)
        omega
      obtain ⟨V, hVe⟩ : ∃ V, V = valB (s.data.toList.take k) := ⟨_, rfl⟩
      rw [← hVe] at hV
      rw [← hVe]
      have HV := Lib.hid hVe
      clear hall hVe
      by_cases hlt : k < s.size
      · have HG := Lib.hid (byte_get hlt)
        have hki : (k : Int) < (s.size : Int) := by omega
        have hk0 : (0 : Int) ≤ (k : Int) := by omega
        by_cases c1 : (s[k]'hlt).toNat < 48
        · have c1i : (((s[k]'hlt).toNat : Nat) : Int) < 48 := by omega
          have HR : Hid (A = -1) := Lib.hid (by rw [HA.out]; unfold numI; rw [numB_bad HG.out (by simp [isdig]; omega)])
          clear c1
          go_wp2
          go_ret
          exact ⟨by rw [HR.out]; rfl, rfl⟩
        · have c1i : ¬ (((s[k]'hlt).toNat : Nat) : Int) < 48 := by omega
          by_cases c2 : 57 < (s[k]'hlt).toNat
          · have c2i : (57 : Int) < (((s[k]'hlt).toNat : Nat) : Int) := by omega
            have HR : Hid (A = -1) := Lib.hid (by rw [HA.out]; unfold numI; rw [numB_bad HG.out (by simp [isdig]; omega)])
            clear c1 c2
            go_wp2
            go_ret
            exact ⟨by rw [HR.out]; rfl, rfl⟩
          · have c2i : ¬ (57 : Int) < (((s[k]'hlt).toNat : Nat) : Int) := by omega
            have c3 : (48 : Int) ≤ (((s[k]'hlt).toNat : Nat) : Int) := by omega
            have c4 : (((s[k]'hlt).toNat : Nat) : Int) ≤ 57 := by omega
            have HS := Lib.hid (valB_take HG.out)
            go_wp2
            go_round
            case rel =>
              refine ⟨k + 1, by omega, by go_num, ?_, ?_⟩
              · rw [HS.out, ← HV.out]
                congr 1
                omega
              · rw [take_one HG.out, List.all_append, HAll.out]
                simp [isdig]; omega
            case measure => simp [intOf]; omega
      · have hkn : k = s.size := by omega
        subst hkn
        have HV2 : Hid (V = valB s.data.toList) := Lib.hid (by rw [HV.out, ← HL.out, List.take_length])
        have HR : Hid (numB s.data.toList = if valB s.data.toList ≤ 2147483647 then some (valB s.data.toList) else none) := Lib.hid (numB_good HN.out HH.out (by have := HAll.out; rwa [← HL.out, List.take_length] at this))
        by_cases hb : 2147483647 < V
        · have hbi : (2147483647 : Int) < (V : Int) := by omega
          go_wp2
          go_ret
          refine ⟨?_, rfl⟩
          rw [HA.out]; unfold numI; rw [HR.out, ← HV2.out, if_neg (by omega)]; rfl
        · have hbi : ¬ (2147483647 : Int) < (V : Int) := by omega
          go_wp2
          go_ret
          refine ⟨?_, rfl⟩
          rw [HA.out]; unfold numI; rw [HR.out, ← HV2.out, if_pos (by omega)]; rfl

/-- The document's number. -/
theorem rnumber_any (w : World) (s : ByteArray) :
    Calls Tryd.prog 55 #[.string s] w fun e w' => e = .returned (.int .i64 (numI s.data.toList)) ∧ w = w' := by
  have hl : s.data.toList.length = s.size := by simp
  by_cases h : s.size = 0 ∨ 10 < s.size ∨ (1 < s.size ∧ s.data.toList[0]? = some 48)
  · have hn : numB s.data.toList = none := by
      rcases h with h | h | h
      · rw [List.eq_nil_of_length_eq_zero (hl.trans h)]; rfl
      · exact numB_long (by omega)
      · exact numB_zero (by omega) h.2
    have := rnumber_bad w s h
    unfold numI
    rw [hn]
    exact this
  · exact rnumber_good w s (fun e => h (.inl e)) (Nat.le_of_not_lt fun e => h (.inr (.inl e))) (fun e => h (.inr (.inr e)))

set_option maxRecDepth 100000 in
set_option maxHeartbeats 4000000 in
/-- The document's space. -/
theorem space_any (w : World) (s : ByteArray) (hs : s.size ≤ 1073741824) :
    Calls Tryd.prog 66 #[.string s] w fun e w' => e = .returned (.int .i64 (spaceI s.data.toList)) ∧ w = w' := by
  have HL : Hid (s.data.toList.length = s.size) := Lib.hid (by simp)
  obtain ⟨A, hA⟩ : ∃ A, A = spaceI s.data.toList := ⟨_, rfl⟩
  rw [← hA]
  have HA := Lib.hid hA
  clear hA
  go_enter Tryd.func66, Tryd.ntmps66
  go_wp2
  go_loop [3, 4] (fun n i => ∃ (k : Nat) (m : Int), k ≤ s.size ∧ i = .int .i64 k ∧ n = .int .i64 m ∧ SpaceTo s.data.toList k m) (fun _ i => s.size - (intOf i).toNat)
  case atStart => exact ⟨0, -1, Nat.zero_le _, rfl, rfl, SpaceTo.zero _⟩
  case round =>
    obtain ⟨k, m, hk, rfl, rfl, hsp⟩ := hrel
    have HSp := Lib.hid hsp
    clear hsp
    by_cases hlt : k < s.size
    · have HG := Lib.hid (byte_get hlt)
      have hki : (k : Int) < (s.size : Int) := by omega
      have hk0 : (0 : Int) ≤ (k : Int) := by omega
      by_cases c1 : s[k]'hlt = 32
      · have c1b : ((((s[k]'hlt).toNat : Nat) : Int) == 32) = true := by rw [c1]; rfl
        have HX : Hid (s.data.toList[k]? = some 32) := Lib.hid (by rw [HG.out, c1])
        clear c1
        by_cases hm : 0 ≤ m
        · have HR : Hid (A = -1) := Lib.hid (by rw [HA.out]; exact HSp.out.second HX.out hm)
          go_wp2
          go_ret
          exact ⟨by rw [HR.out]; rfl, rfl⟩
        · go_wp2
          go_round
          case rel => exact ⟨k + 1, k, by omega, by go_num, rfl, HSp.out.first HX.out (by omega)⟩
          case measure => simp [intOf]; omega
      · have c1b : ((((s[k]'hlt).toNat : Nat) : Int) == 32) = false := by
          rw [beq_eq_false_iff_ne]
          intro e
          exact c1 (UInt8.toNat_inj.1 (by show _ = 32; omega))
        have HX : Hid (s[k]'hlt ≠ 32) := Lib.hid c1
        clear c1
        go_wp2
        go_round
        case rel => exact ⟨k + 1, m, by omega, by go_num, rfl, HSp.out.other HG.out HX.out⟩
        case measure => simp [intOf]; omega
    · have hkn : k = s.size := by omega
      subst hkn
      have HR : Hid (m = A) := Lib.hid (by rw [HA.out]; exact SpaceTo.all (by rw [HL.out]; exact HSp.out))
      go_wp2
      go_ret
      exact ⟨by rw [HR.out]; rfl, rfl⟩
end Go.Proofs.YteejkkidnohcfaaDoor
