/- Walks: strings.IndexRune at an ASCII text. -/
import Derived.Test.YteejkkidnohcfaaGreatDoorW2
import Derived.Lib.OthersKept
namespace Go.Proofs.YteejkkidnohcfaaGreatDoor
open Go Go.RowKit Go.Maps

set_option maxRecDepth 100000 in
theorem ixr_low (w : World) (s : ByteArray) (r : Int) (h0 : 0 ≤ r) (h1 : r < 128) :
    Calls Tryz.prog 25 #[.string s, .int .i32 r] w fun e w' => e = .returned (.int .i64 (Lib.indexByte s.data.toList r.toNat.toUInt8)) ∧ Chg (fun _ => False) w w' := by
  have hw : IntKind.u8.wrap r = r := by
    have hm : r % 256 = r := by omega
    unfold IntKind.wrap
    simp [IntKind.bits, IntKind.signed, hm]
  go_enter Tryz.func25, Tryz.ntmps25
  go_wp2_with (go_at_call 45; refine (Tryz.strings_IndexByte _ _ _).mono ?_; rintro e w' ⟨rfl, rfl⟩)
  go_ret
  exact ⟨rfl, Chg.refl _ _⟩

theorem Chg.iterAt {S : Nat → Prop} {a w : World} (h : Chg S a w) {k : Nat} (hk : S k ∨ a.heap.size ≤ k) (s : ByteArray) (pos : Nat) : Chg S a (w.iterAt k s pos) :=
  h.trans (S' := fun x => x = k) ⟨rfl, rfl, rfl, by rw [Lib.iterAt_size]; exact Nat.le_refl _, fun i _ hi => Lib.iterAt_other w k i s pos hi⟩ (fun x hx => by subst hx; exact hk)

set_option maxRecDepth 100000 in
set_option maxHeartbeats 4000000 in
theorem ixr_bad (w : World) (s : ByteArray) (hs : ∀ (i : Nat) (h : i < s.size), (s[i]'h).toNat < 128) :
    Calls Tryz.prog 25 #[.string s, .int .i32 65533] w fun e w' => e = .returned (.int .i64 (-1)) ∧ Chg (fun _ => False) w w' := by
  have HS := Lib.hid hs
  clear hs
  go_enter Tryz.func25, Tryz.ntmps25
  go_wp2_with fail
  go_loopw [5, 6] (fun _ _ wr => ∃ pos : Nat, wr.heap[w.heap.size]? = some (.stringIter s pos) ∧ Chg (fun _ => False) w wr) (fun _ _ wr => s.size - wr.iterPos w.heap.size)
  case atStart => exact ⟨0, World.iter_heap w s 0, (Chg.refl _ w).alloc _⟩
  case round =>
    obtain ⟨pos, hit, hch⟩ := hrel
    have HIt := Lib.hid hit
    have HCh := Lib.hid hch
    by_cases hp : pos < s.size
    · have ha := HS.out pos hp
      have hnx : ∀ ty, (Instr.next (.pointer (some ⟨w.heap.size, 0, none⟩)) true ty).run Tryz.prog wr = _ := fun ty => Lib.run_next_ascii_at wr w.heap.size s pos ty hit hp ha
      have hne : (((s[pos]'hp).toNat : Int) == 65533) = false := by rw [beq_eq_false_iff_ne]; omega
      clear hit hch
      go_wp2_with fail
      refine ⟨⟨pos + 1, Lib.iterAt_heap _ _ _ _ _ HIt.out, Chg.iterAt HCh.out (.inr (Nat.le_refl _)) _ _⟩, ?_⟩
      simp only [World.iterPos, Lib.iterAt_heap _ _ _ _ _ HIt.out, HIt.out]
      omega
    · have hnx : ∀ ty, (Instr.next (.pointer (some ⟨w.heap.size, 0, none⟩)) true ty).run Tryz.prog wr = _ := fun ty => Lib.run_next_end_at wr w.heap.size s pos ty hit hp
      clear hit hch
      go_wp2_with fail
      go_ret
      exact ⟨rfl, HCh.out⟩

theorem indexByte_none (c : UInt8) : ∀ l : Bytes, (∀ b ∈ l, b ≠ c) → Lib.indexByte l c = -1
  | [], _ => rfl
  | b :: l, h => by
    unfold Lib.indexByte
    have h1 : (b == c) = false := by rw [beq_eq_false_iff_ne]; exact h b (by simp)
    rw [h1, indexByte_none c l (fun x hx => h x (by simp [hx]))]
    rfl

set_option maxRecDepth 100000 in
set_option maxHeartbeats 4000000 in
theorem ixr_high (w : World) (s : ByteArray) (hs : ∀ (i : Nat) (h : i < s.size), (s[i]'h).toNat < 128) (h4 : 4 ≤ s.size) (hmax : s.size ≤ 100) (r : Int) (h0 : 128 ≤ r) (hne : r ≠ 65533) :
    Calls Tryz.prog 25 #[.string s, .int .i32 r] w fun e w' => e = .returned (.int .i64 (-1)) ∧ Chg (fun _ => False) w w' := by
  have hq : (r == 65533) = false := by rw [beq_eq_false_iff_ne]; exact hne
  have g1 : (0 : Int) ≤ r := by omega
  have g2 : ¬ r < 128 := by omega
  by_cases hv : Lib.validRune r = true
  · have hv2 : Utf8.valid r = true := by rw [validRune_eq]; exact hv
    obtain ⟨e1, e2, e3⟩ := encode_facts r hv2 h0
    generalize hE : Utf8.encode r = E at e1 e2 e3
    have e4 := e3 (by omega)
    have q1 : E.size - 1 < E.size := by omega
    have q2 : E.size - 1 < s.size := by omega
    have q3 : (s[E.size - 1]'q2).toNat < 128 := hs _ q2
    have HS := Lib.hid hs
    have HIX : Hid (∀ a b, Lib.indexByte (s.extract a b).data.toList (((E[E.size - 1]'q1).toNat : Int).toNat.toUInt8) = -1) := Lib.hid (fun a b => indexByte_none _ _ (fun x hx e => by
      have hx1 := mem_extract hx
      obtain ⟨i, hi, hxi⟩ := List.getElem_of_mem hx1
      have h2 := hs i (by simpa using hi)
      have h3 : s[i]'(by simpa using hi) = x := hxi
      have h4 : (E[E.size - 1]'q1).toNat = x.toNat := by rw [e]; simp
      rw [h3] at h2
      omega))
    clear hne e3 hs
    go_enter Tryz.func25, Tryz.ntmps25
    go_wp2_with (go_at_call 46; refine (Tryz.utf8_ValidRune _ _).mono ?_; rintro e w' ⟨rfl, rfl⟩; rw [hv])
    go_wp2_with fail
    go_step3
    go_wp2_with fail
    go_loopg [9] 0 (fun gm iv wr => gm = 0 ∧ iv = .int .i64 ((E.size : Int) - 1) ∧ w' = wr)
    case atStart => exact ⟨rfl, rfl, rfl⟩
    case round =>
      obtain ⟨hg, rfl, rfl⟩ := hrel
      have r1 : (E.size : Int) - 1 < (s.size : Int) := by omega
      have r2 : (0 : Int) ≤ (E.size : Int) - 1 := by omega
      have r3 : (E.size : Int) - 1 < (E.size : Int) := by omega
      have r4 : (1 : Int) ≤ (E.size : Int) := by omega
      have r5 : IntKind.i64.wrap (E.size : Int) = (E.size : Int) := Go.wrap_small _ (by omega) (by omega)
      have r6 : (E.size : Int) ≤ (s.size : Int) := by omega
      have r7 : (0 : Int) ≤ (E.size : Int) := by omega
      go_wp2_with fail
      go_step3
      go_wp2_with fail
      go_quiet (fail)
      go_wp2_with fail
      go_region_law
        (go_simp; go_at_call 45; refine (Tryz.strings_IndexByte _ _ _).mono ?_; rintro e w5 ⟨rfl, hw5⟩; rw [HIX.out])
      all_goals
        subst hw5
        have HC : Hid (Chg (fun _ => False) w' (w'.drewN (nq + 1))) := Lib.hid ((Chg.refl _ w').drewN _)
        go_wp2_with fail
        rw [Exit.noGoto_ret]
        try go_wp2_with fail
        rw [Exit.noGoto_ret]
        go_ret
        exact ⟨rfl, HC.out⟩
  · have hv' : Lib.validRune r = false := by simpa using hv
    clear hne
    go_enter Tryz.func25, Tryz.ntmps25
    go_wp2_with (go_at_call 46; refine (Tryz.utf8_ValidRune _ _).mono ?_; rintro e w' ⟨rfl, rfl⟩; rw [hv'])
    go_ret
    exact ⟨rfl, Chg.refl _ _⟩

/-- What IndexRune says of a rune among the digits. -/
def ixR (r : Int) : Int := if r < 128 then (match undig r.toNat.toUInt8 with | some n => (n : Int) | none => -1) else -1
theorem dig_low : ∀ (i : Nat) (h : i < (ByteArray.mk #[48, 49, 50, 51, 52, 53, 54, 55, 56, 57, 97, 98, 99, 100, 101, 102]).size), ((ByteArray.mk #[48, 49, 50, 51, 52, 53, 54, 55, 56, 57, 97, 98, 99, 100, 101, 102])[i]'h).toNat < 128 := by
  intro i h
  have h16 : i < 16 := h
  rw [digit_get i h16 h]
  have : ∀ m, m < 16 → (hexd m).toNat < 128 := by decide
  exact this i h16
theorem ixr_any (w : World) (r : Int) (h0 : 0 ≤ r) :
    Calls Tryz.prog 25 #[.string ⟨#[48, 49, 50, 51, 52, 53, 54, 55, 56, 57, 97, 98, 99, 100, 101, 102]⟩, .int .i32 r] w fun e w' => e = .returned (.int .i64 (ixR r)) ∧ Chg (fun _ => False) w w' := by
  by_cases h1 : r < 128
  · have := ixr_low w ⟨#[48, 49, 50, 51, 52, 53, 54, 55, 56, 57, 97, 98, 99, 100, 101, 102]⟩ r h0 h1
    have e : Lib.indexByte digitsB r.toNat.toUInt8 = ixR r := by unfold ixR; rw [if_pos h1, indexByte_digits]; cases undig r.toNat.toUInt8 <;> rfl
    rw [← e]
    exact this
  · have e : ixR r = -1 := by unfold ixR; rw [if_neg h1]
    rw [e]
    by_cases h2 : r = 65533
    · subst h2; exact ixr_bad w _ dig_low
    · exact ixr_high w _ dig_low (by decide) (by decide) r (by omega) h2
end Go.Proofs.YteejkkidnohcfaaGreatDoor
