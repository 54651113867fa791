/- Walks: Unhex. -/
import Derived.Test.YteejkkidnohcfaaGreatDoorW4
import Derived.Test.YteejkkidnohcfaaGreatDoorB4
import Derived.Deep.AppendLies
namespace Go.Proofs.YteejkkidnohcfaaGreatDoor
open Go Go.RowKit Go.Maps

set_option maxRecDepth 100000 in
set_option maxHeartbeats 4000000 in
theorem unhex_dash (w : World) : Calls Tryz.prog 11 #[.string ⟨#[45]⟩] w fun e w' => e = .returned (.tuple #[.slice none 0 0, .int .i64 0]) ∧ w = w' := by
  go_enter Tryz.func11, Tryz.ntmps11
  go_wp2
  go_ret2
  exact ⟨rfl, rfl⟩
set_option maxRecDepth 100000 in
set_option maxHeartbeats 4000000 in
theorem unhex_nil (w : World) : Calls Tryz.prog 11 #[.string ⟨#[]⟩] w fun e w' => e = .returned (.tuple #[.slice none 0 0, .int .i64 201]) ∧ w = w' := by
  go_enter Tryz.func11, Tryz.ntmps11
  go_wp2
  go_ret2
  exact ⟨rfl, rfl⟩
set_option maxRecDepth 100000 in
set_option maxHeartbeats 4000000 in
theorem unhex_odd (w : World) (s : ByteArray) (e1 : (s.toList == [45]) = false) (e2 : (s.toList == []) = false) (h3 : s.size % 2 = 1) (hm : s.size ≤ 1073741824) : Calls Tryz.prog 11 #[.string s] w fun e w' => e = .returned (.tuple #[.slice none 0 0, .int .i64 201]) ∧ w = w' := by
  go_enter Tryz.func11, Tryz.ntmps11
  go_wp2
  go_ret2
  exact ⟨rfl, rfl⟩

theorem or_lo {x d : Nat} (hx : x < 16) (hd : d < 16) : bits BinOp.or IntKind.u8 ((x : Int) * 16 % 256) (d : Int) = ((x * 16 % 256 + d : Nat) : Int) := by
  have : ∀ a b : Fin 16, bits BinOp.or IntKind.u8 ((a.val : Int) * 16 % 256) (b.val : Int) = ((a.val * 16 % 256 + b.val : Nat) : Int) := by decide +kernel
  exact this ⟨x, hx⟩ ⟨d, hd⟩

set_option maxRecDepth 100000 in
set_option maxHeartbeats 4000000 in
theorem unhex_even (w : World) (s : ByteArray) (n : Nat) (e1 : (s.toList == [45]) = false) (e2 : (s.toList == []) = false) (hn : s.size = 2 * n) (hm : s.size ≤ 1073741824) :
    Calls Tryz.prog 11 #[.string s] w fun e w' => (unpairs s.data.toList = none ∧ e = .returned (.tuple #[.slice none 0 0, .int .i64 201]) ∨ ∃ g bs, unpairs s.data.toList = some bs ∧ e = .returned (.tuple #[.slice (some ⟨g, 0, none⟩) bs.length bs.length, .int .i64 0]) ∧ w'.ownsRow 0 5 1 (.slice (some ⟨g, 0, none⟩) bs.length bs.length) bs.length (bVs bs) ∧ w.heap.size ≤ g) ∧ Chg (fun _ => False) w w' := by
  obtain ⟨i1, hi', hz0, hz1, hz2⟩ := info_parts info5
  have h3 : s.size % 2 = 0 := by omega
  have hq : (s.size : Int) / 2 = (n : Int) := by omega
  have hnb : n ≤ 536870912 := by omega
  obtain ⟨B, hB⟩ : ∃ B, B = w.heap.size := ⟨_, rfl⟩
  have HB := Lib.hid hB
  clear hB
  have HN := Lib.hid hn
  clear hn
  go_enter Tryz.func11, Tryz.ntmps11
  go_wp2_with (first
    | (at_make; refine wpList_make_full _ rfl _ _ 49 rfl 0 5 i1 (.int .u8 0) 1 Tryz.underlying49 hi' hz0 hz1 .i64 .i64 _ _ n rfl rfl rfl rfl (by rw [hz2]; omega) (by unfold maxLen; omega) (Nat.zero_le _) ?_; intro wa hwa hga; rw [← HB.out] at hwa ⊢; have HWA := Lib.hid hwa; have HCA : Hid (Chg (fun _ => False) w wa) := Lib.hid ((Chg.refl _ w).grown hga (fun k e => (by cases e))); clear hwa hga)
    | fail)
  obtain ⟨K, hK⟩ : ∃ K, K = wa.heap.size := ⟨_, rfl⟩
  rw [← hK]
  have HK := Lib.hid hK
  clear hK
  go_loopw [5, 6, 7] (fun _ _ _ wr => ∃ ds : List Nat, Digs s.data.toList ds ∧ ds.length ≤ s.size ∧ wr.heap[K]? = some (.stringIter s ds.length) ∧ wr.ownsRow 0 5 1 (.slice (some ⟨B, 0, none⟩) n n) n (bVs (fill ds n)) ∧ Chg (fun _ => False) w wr) (fun _ _ _ wr => s.size - wr.iterPos K)
  case atStart =>
    refine ⟨[], Digs.nil _, Nat.zero_le _, by rw [HK.out]; exact World.iter_heap wa s 0, ?_, HCA.out.alloc _⟩
    have h1 := HWA.out
    have e : (madeCells (Value.int IntKind.u8 0).cells (n * 1)).toList = bVs (fill [] n) := by
      rw [fill_nil, Nat.mul_one]
      exact (toList_madeCells_one _ n).trans (by simp [bVs, bV])
    rw [e] at h1
    exact h1.alloc _
  case round =>
    obtain ⟨ds, hdg, hle, hit, hrow, hch⟩ := hrel
    have HDg := Lib.hid hdg
    have HIt := Lib.hid hit
    have HRow := Lib.hid hrow
    have HCh := Lib.hid hch
    obtain ⟨pos, hpos⟩ : ∃ pos, pos = ds.length := ⟨_, rfl⟩
    rw [← hpos] at hit hle
    have HPos := Lib.hid hpos
    clear hdg hrow hch hpos
    by_cases hp : pos < s.size
    · have hget : s.data.toList[pos]? = some (s[pos]'hp) := by
        rw [List.getElem?_eq_getElem (by simpa using hp)]; rfl
      by_cases hu : ∃ d, (s[pos]'hp).toNat < 128 ∧ undig (s[pos]'hp) = some d
      · obtain ⟨d, ha, hd⟩ := hu
        have hnx : ∀ ty, (Instr.next (.pointer (some ⟨K, 0, none⟩)) true ty).run Tryz.prog wr = _ := fun ty => Lib.run_next_ascii_at wr K s pos ty hit hp ha
        have HI : Hid (ixR ((s[pos]'hp).toNat : Int) = (d : Int)) := Lib.hid (by
          unfold ixR
          rw [if_pos (by omega), show ((s[pos]'hp).toNat : Int).toNat.toUInt8 = s[pos]'hp by simp, hd])
        have HG := Lib.hid hget
        have HD := Lib.hid hd
        have hd16 : d < 16 := undig_lt hd
        have hneg : ¬ (d : Int) < 0 := by omega
        have hp2 : (pos : Int) / 2 < (n : Int) := by have := HN.out; omega
        have hp0 : (0 : Int) ≤ (pos : Int) / 2 := by omega
        have hpn : pos / 2 < n := by have := HN.out; omega
        have HBK : Hid (B < K) := Lib.hid (by have := HWA.out; rcases this.2 with ⟨e, _⟩ | ⟨g, c2, cur, e, _, hh, _⟩; · cases e
                                              · cases e; rw [HK.out]; exact heap_lt hh)
        have HR1 : Hid (Chg (fun x => x = K) wr (wr.iterAt K s (pos + 1))) := Lib.hid (Chg.iterAt (S := fun x => x = K) (Chg.refl _ _) (.inl rfl) _ _)
        clear hit hget hd
        go_wp2_with (go_at_call 25; refine (ixr_any _ _ (by omega)).mono ?_; rintro e w5 ⟨rfl, hc5⟩; rw [HI.out]; have HC5 := Lib.hid hc5; have hr5 := ownsRow_chg (ownsRow_chg HRow.out HR1.out (fun g e => by have := HBK.out; simp only [Value.ownBlock, Option.some.injEq] at e; omega)) hc5 (fun g e f => f); have HR5 := Lib.hid hr5; have f5 := hr5.frozenAt (pos / 2); have c5 : w5.cell? ⟨B, pos / 2, none⟩ = some (.int .u8 (fillAt ds (pos / 2)).toNat) := (by rw [hr5.cellAt (pos / 2) (by omega)]; exact bVs_at (fill_get hpn)); clear hc5 hr5)
        have HP := HPos.out
        have hdl := HDg.out.lt
        have hnew := fillAt_new hdl hd16
        have hold := fillAt_lt hdl
        rw [← HP] at hnew hold
        rw [or_lo hold hd16, ← hnew]
        have hk5 : w5.heap[K]? = some (.stringIter s (pos + 1)) := HC5.out.get (Lib.iterAt_heap wr K s pos _ (by rw [HP]; exact HIt.out)) (fun f => f)
        have hks : (w5.setCell ⟨B, pos / 2, none⟩ (.int .u8 (fillAt (ds ++ [d]) (pos / 2)).toNat)).heap[K]? = some (.stringIter s (pos + 1)) := heap_setCell_other _ hk5 (by have := HBK.out; show K ≠ B; omega)
        refine ⟨⟨ds ++ [d], HDg.out.snoc (c := s[pos]'hp) (by rw [← HP]; exact HG.out) HD.out, by rw [List.length_append, ← HP]; simp; omega, by rw [List.length_append, ← HP]; exact hks, ?_, ?_⟩, ?_⟩
        · have h1 := ownsRow_setCell HR5.out (pos / 2) (.int .u8 (fillAt (ds ++ [d]) (pos / 2)).toNat) (by rw [bVs_length, fill_length]; omega)
          have h2 : bVs (fill (ds ++ [d]) n) = (bVs (fill ds n)).set (pos / 2) (.int .u8 (fillAt (ds ++ [d]) (pos / 2)).toNat) := by
            rw [fill_snoc, ← HP]; simp [bVs, bV, List.map_set]
          rw [h2]; exact h1
        · refine ((HCh.out.trans HR1.out (fun x e => .inr ?_)).trans HC5.out (fun _ f => f.elim)).setCell (p := ⟨B, pos / 2, none⟩) (.inr ?_) _
          · have := HCA.out.size; have := HK.out; omega
          · show w.heap.size ≤ B; have := HB.out; omega
        · have h0 : wr.heap[K]? = some (.stringIter s pos) := by rw [HP]; exact HIt.out
          simp only [World.iterPos, hks, h0]
          omega
      · have hneg : ixR ((Utf8.decode s pos).1 : Int) = -1 := by
          unfold ixR
          by_cases ha : (s[pos]'hp).toNat < 128
          · rw [decode_ascii s pos hp ha, if_pos (by omega), show ((s[pos]'hp).toNat : Int).toNat.toUInt8 = s[pos]'hp by simp]
            cases hd : undig (s[pos]'hp) with
            | none => rfl
            | some d => exact (hu ⟨d, ha, hd⟩).elim
          · rw [if_neg]
            have := (decode_high s pos hp (by omega)).1
            omega
        have HF : Hid (unpairs s.data.toList = none) := Lib.hid (unpairs_bad hget (by
          cases hd : undig (s[pos]'hp) with
          | none => rfl
          | some d =>
            exfalso
            refine hu ⟨d, ?_, hd⟩
            unfold undig at hd
            split at hd
            · omega
            · split at hd
              · omega
              · cases hd))
        have HI := Lib.hid hneg
        have hnx : ∀ ty, (Instr.next (.pointer (some ⟨K, 0, none⟩)) true ty).run Tryz.prog wr = _ := fun ty => Lib.run_next_any_at wr K s pos ty hit hp
        have HR1 : Hid (Chg (fun x => x = K) wr (wr.iterAt K s (pos + (Utf8.decode s pos).2))) := Lib.hid (Chg.iterAt (S := fun x => x = K) (Chg.refl _ _) (.inl rfl) _ _)
        clear hit hget hu hneg
        go_wp2_with (go_at_call 25; refine (ixr_any _ _ (by omega)).mono ?_; rintro e w5 ⟨rfl, hc5⟩; rw [HI.out]; have HC5 := Lib.hid hc5; clear hc5)
        go_ret2
        refine ⟨.inl ⟨HF.out, rfl⟩, (HCh.out.trans HR1.out (fun x e => .inr ?_)).trans HC5.out (fun _ f => f.elim)⟩
        have := HCA.out.size; have := HK.out; omega
    · have hnx : ∀ ty, (Instr.next (.pointer (some ⟨K, 0, none⟩)) true ty).run Tryz.prog wr = _ := fun ty => Lib.run_next_end_at wr K s pos ty hit hp
      have HF : Hid (unpairs s.data.toList = some (fill ds n)) := Lib.hid (digs_all HDg.out (by have := HPos.out; have e : s.data.toList.length = s.size := (by simp); omega) (by have e : s.data.toList.length = s.size := (by simp); have := HN.out; omega))
      clear hit
      go_wp2_with fail
      go_ret2
      refine ⟨.inr ⟨B, fill ds n, HF.out, by rw [fill_length]; rfl, by rw [fill_length]; exact HRow.out, by rw [HB.out]; exact Nat.le_refl _⟩, HCh.out⟩

/-- What Unhex answers. -/
def UnhexAns (w w' : World) (t : Bytes) (e : Ending) : Prop :=
  unhexB t = none ∧ e = .returned (.tuple #[.slice none 0 0, .int .i64 201]) ∨ ∃ a bs c, unhexB t = some bs ∧ e = .returned (.tuple #[.slice a bs.length c, .int .i64 0]) ∧ w'.ownsRow 0 5 1 (.slice a bs.length c) bs.length (bVs bs) ∧ ∀ g, (Value.slice a bs.length c).ownBlock = some g → w.heap.size ≤ g
theorem unhex_any (w : World) (s : ByteArray) (hm : s.size ≤ 1073741824) :
    Calls Tryz.prog 11 #[.string s] w fun e w' => UnhexAns w w' s.data.toList e ∧ Chg (fun _ => False) w w' := by
  have hs : s.toList = s.data.toList := Lib.toList_data s
  have hsz : s.data.toList.length = s.size := by simp
  by_cases h1 : s.data.toList = [45]
  · have e1 : s = ⟨#[45]⟩ := by
      obtain ⟨⟨l⟩⟩ := s
      simp only at h1
      rw [h1]
    subst e1
    refine (unhex_dash w).mono ?_
    rintro e w' ⟨rfl, rfl⟩
    exact ⟨.inr ⟨none, [], 0, rfl, rfl, World.ownsRow_nil _ _ _ _, fun g e => (by simp [Value.ownBlock] at e)⟩, Chg.refl _ _⟩
  · by_cases h2 : s.data.toList = []
    · have e1 : s = ⟨#[]⟩ := by
        obtain ⟨⟨l⟩⟩ := s
        simp only at h2
        rw [h2]
      subst e1
      refine (unhex_nil w).mono ?_
      rintro e w' ⟨rfl, rfl⟩
      exact ⟨.inl ⟨rfl, rfl⟩, Chg.refl _ _⟩
    · have b1 : (s.toList == [45]) = false := by rw [hs, beq_eq_false_iff_ne]; exact h1
      have b2 : (s.toList == []) = false := by rw [hs, beq_eq_false_iff_ne]; exact h2
      have hu : unhexB s.data.toList = unpairs s.data.toList := by unfold unhexB; rw [if_neg h1, if_neg h2]
      unfold UnhexAns
      rw [hu]
      rcases Nat.mod_two_eq_zero_or_one s.size with h3 | h3
      · refine (unhex_even w s (s.size / 2) b1 b2 (by omega) hm).mono ?_
        rintro e w' ⟨h | ⟨g, bs, h4, rfl, h6, h7⟩, hc⟩
        · exact ⟨.inl h, hc⟩
        · exact ⟨.inr ⟨_, bs, _, h4, rfl, h6, fun g' e => (by simp only [Value.ownBlock, Option.some.injEq] at e; omega)⟩, hc⟩
      · refine (unhex_odd w s b1 b2 h3 hm).mono ?_
        rintro e w' ⟨rfl, rfl⟩
        exact ⟨.inl ⟨unpairs_odd (by omega), rfl⟩, Chg.refl _ _⟩
end Go.Proofs.YteejkkidnohcfaaGreatDoor
