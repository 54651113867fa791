/- Walk: the document's pair. -/
import Derived.Test.YteejkkidnohcfaaDoorN1
import Derived.Test.YteejkkidnohcfaaDoorW11
import Derived.Test.YteejkkidnohcfaaDoorW6
namespace Go.Proofs.YteejkkidnohcfaaDoor
open Go Go.RowKit Go.Maps

/-- What the document's pair answers. -/
def RPairAns (w w' : World) (t : Bytes) (e : Ending) : Prop :=
  ∃ kv uv, (∃ a n c, kv = .slice a n c) ∧ (∃ a n c, uv = .slice a n c) ∧ e = .returned (.tuple #[.agg #[kv, uv], .int .i64 (pairB t).2]) ∧ ((pairB t).2 = 0 → NewRow w w' kv (pairB t).1.1 ∧ NewRow w w' uv (pairB t).1.2)
theorem res56 {w : World} {tmps : Array Value} {b : Nat} {k u c : Value} (h6 : tmps[2]?.getD undef = .pointer (some ⟨b, 0, none⟩)) (h7 : tmps[3]?.getD undef = c) (c0 : w.cell? ⟨b, 0, none⟩ = some k) (c1 : w.cell? ⟨b, 1, none⟩ = some u) :
    (results Tryd.f56 tmps).run Tryd.prog w = .ok (.tuple #[.agg #[k, u], c]) w := by
  simp [results, Tryd.results56, go_sem, h6, h7, c0, c1]
theorem end56 {w w2 : World} {tmps : Array Value} {b : Nat} {a1 a2 : Option Addr} {n1 n2 c1 c2 : Nat} {t : Bytes} {fz : Nat × Nat} (h6 : tmps[2]?.getD undef = .pointer (some ⟨b, 0, none⟩)) (h7 : tmps[3]?.getD undef = .int .i64 (pairB t).2) (hp : w2.heap[b]? = some (.cells #[.slice a1 n1 c1, .slice a2 n2 c2] 44 fz))
    (hok : (pairB t).2 = 0 → NewRow w w2 (.slice a1 n1 c1) (pairB t).1.1 ∧ NewRow w w2 (.slice a2 n2 c2) (pairB t).1.2) (hc : Chg (fun _ => False) w w2) :
    bodyPost Tryd.prog Tryd.f56 (fun e w' => RPairAns w w' t e ∧ Chg (fun _ => False) w w') .ret ⟨tmps, []⟩ w2 := by
  refine bodyPost_ret (res56 h6 h7 (k := .slice a1 n1 c1) (u := .slice a2 n2 c2) (by rw [Lib.cell_of_heap hp]; rfl) (by rw [Lib.cell_of_heap hp]; rfl)) rfl ?_
  exact ⟨⟨_, _, ⟨_, _, _, rfl⟩, ⟨_, _, _, rfl⟩, rfl, hok⟩, hc⟩

set_option maxRecDepth 100000 in
set_option maxHeartbeats 8000000 in
theorem rpair_any (w : World) (s : ByteArray) (hs : s.size ≤ 268435456) :
    Calls Tryd.prog 56 #[.string s] w fun e w' => RPairAns w w' s.data.toList e ∧ Chg (fun _ => False) w w' := by
  have hsl : s.data.toList.length = s.size := by simp
  have CA : Hid (Chg (fun _ => False) w (w.alloc (.cells #[.slice none 0 0, .slice none 0 0] 44))) := Lib.hid ((Chg.refl _ w).alloc _)
  have hp0 := heap_alloc_new w (.cells #[.slice none 0 0, .slice none 0 0] 44)
  have HP0 := Lib.hid hp0
  obtain ⟨n, hn⟩ : ∃ n, n = spaceI s.data.toList := ⟨_, rfl⟩
  have HN := Lib.hid hn
  by_cases hbad : n < 1 ∨ n = (s.size : Int) - 1
  · have HB : Hid (pairB s.data.toList = (([], []), 200)) := Lib.hid (pairB_text (by rw [hsl, ← hn]; exact hbad))
    by_cases h1 : n < 1
    · clear hbad hn hsl hp0
      go_enter Tryd.func56, Tryd.ntmps56
      go_wp2_with (go_at_call 66; refine (space_any _ s (by omega)).mono ?_; rintro e w' ⟨rfl, rfl⟩; rw [← HN.out])
      exact end56 (by rfl) (by rw [HB.out]; rfl) HP0.out (fun h => by rw [HB.out] at h; cases h) CA.out
    · have h2 : (n == (s.size : Int) - 1) = true := by rw [beq_iff_eq]; omega
      clear hbad hn hsl hp0
      go_enter Tryd.func56, Tryd.ntmps56
      go_wp2_with (go_at_call 66; refine (space_any _ s (by omega)).mono ?_; rintro e w' ⟨rfl, rfl⟩; rw [← HN.out])
      exact end56 (by rfl) (by rw [HB.out]; rfl) HP0.out (fun h => by rw [HB.out] at h; cases h) CA.out
  · obtain ⟨m, hm⟩ := Int.eq_ofNat_of_zero_le (show 0 ≤ n by omega)
    have hcut := pairB_cut (line := s.data.toList) (n := m) (by rw [← hn]; exact hm) (by omega) (by rw [hsl]; omega)
    rw [hsl] at hcut
    obtain ⟨hml, hpb⟩ := hcut
    subst hm
    have h1 : ¬ (m : Int) < 1 := by omega
    have h2 : ((m : Int) == (s.size : Int) - 1) = false := by rw [beq_eq_false_iff_ne]; omega
    obtain ⟨K, hK⟩ : ∃ K : ByteArray, K = s.extract 0 m := ⟨_, rfl⟩
    obtain ⟨V, hV⟩ : ∃ V : ByteArray, V = s.extract (m + 1) s.size := ⟨_, rfl⟩
    have HKd : Hid (K.data.toList = s.data.toList.take m) := Lib.hid (by rw [hK, ByteArray.data_extract, Array.toList_extract]; simp [List.extract])
    have HVd : Hid (V.data.toList = s.data.toList.drop (m + 1)) := Lib.hid (by rw [hV, ByteArray.data_extract, Array.toList_extract]; simp [List.extract]; rw [List.take_of_length_le (by simp)])
    have hm0 : (0 : Int) ≤ (m : Int) := by omega
    have hm1 : (m : Int) ≤ (s.size : Int) := by omega
    have hm2 : (0 : Int) ≤ (m : Int) + 1 := by omega
    have hm3 : (m : Int) + 1 ≤ (s.size : Int) := by omega
    have HPB := Lib.hid hpb
    have HK := Lib.hid hK
    have HV := Lib.hid hV
    have hKs : K.size ≤ 268435456 := by rw [hK, ByteArray.size_extract]; omega
    have hVs : V.size ≤ 268435456 := by rw [hV, ByteArray.size_extract]; omega
    clear hbad hpb hn hsl hp0 hK hV
    go_enter Tryd.func56, Tryd.ntmps56
    go_wp2_with (go_at_call 66; refine (space_any _ s (by omega)).mono ?_; rintro e w' ⟨rfl, rfl⟩; rw [← HN.out])
    rw [← HK.out]
    refine (runhex_any _ K (by omega)).mono ?_
    rintro e w2 ⟨hans, hc2⟩
    have HAns := Lib.hid hans
    have C2 := Lib.hid (CA.out.trans hc2 (fun _ f => f.elim))
    have hp2 := hc2.get HP0.out (fun f => f)
    have HP2 := Lib.hid hp2
    have s0 : w2.cell? ⟨w.heap.size, 0, none⟩ = some (.slice none 0 0) := by rw [Lib.cell_of_heap hp2]; rfl
    have s1 : w2.cell? ⟨w.heap.size, 1, none⟩ = some (.slice none 0 0) := by rw [Lib.cell_of_heap hp2]; rfl
    have sf0 : w2.frozen? ⟨w.heap.size, 0, none⟩ = false := Lib.frozen_of_heap hp2 0
    have sf1 : w2.frozen? ⟨w.heap.size, 1, none⟩ = false := Lib.frozen_of_heap hp2 1
    have hsz1 : (w.alloc (.cells #[.slice none 0 0, .slice none 0 0] 44)).heap.size = w.heap.size + 1 := Array.size_push _
    have HSz1 := Lib.hid hsz1
    have HC2 := Lib.hid hc2
    clear hans hc2 hp2 hsz1
    rcases HAns.out with ⟨hu, rfl⟩ | ⟨ua, bs, uc, hu, rfl, hrow, hown⟩
    · rw [HKd.out] at hu
      have HB : Hid (pairB s.data.toList = (([], []), 201)) := Lib.hid (by rw [HPB.out, hu])
      clear hu
      go_wp2_with fail
      obtain ⟨z1, z2⟩ := zero44 HP2.out C2.out (Nat.le_refl _) (.slice none 0 0) (.slice none 0 0)
      exact end56 (by rfl) (by rw [HB.out]; rfl) z1 (fun h => by rw [HB.out] at h; cases h) z2
    · rw [HKd.out] at hu
      have HU := Lib.hid hu
      have HNR : Hid (NewRow w w2 (.slice ua bs.length uc) bs) := Lib.hid ⟨⟨_, _, rfl⟩, hrow, fun g e => by have := hown g e; have := HSz1.out; omega⟩
      have HNe1 : Hid (∀ g, (Value.slice ua bs.length uc).ownBlock = some g → ¬ g = w.heap.size) := Lib.hid (fun g e => by have := hown g e; have := HSz1.out; omega)
      have hbl : bs.length ≤ 268435456 := by
        have h1 := congrArg List.length (hex_unhex hu)
        have h2 : (s.data.toList.take m).length ≤ 268435456 := by rw [← HKd.out]; simpa using hKs
        unfold hexB at h1
        split at h1
        · rename_i h4; rw [h4]; simp
        · rw [hexs_length] at h1; omega
      clear hu hrow hown
      have e0 : ((0 : Int) != 0) = false := rfl
      by_cases hk1 : bs.length < 1
      · have k1 : (bs.length : Int) < 1 := by omega
        have HB : Hid (pairB s.data.toList = (([], []), 41)) := Lib.hid (by rw [HPB.out, HU.out]; simp only []; rw [if_pos (.inl hk1)])
        clear hk1
        go_wp2_with fail
        obtain ⟨z1, z2⟩ := zero44 HP2.out C2.out (Nat.le_refl _) (.slice none 0 0) (.slice none 0 0)
        exact end56 (by rfl) (by rw [HB.out]; rfl) z1 (fun h => by rw [HB.out] at h; cases h) z2
      · have k1 : ¬ (bs.length : Int) < 1 := by omega
        by_cases hk2 : 255 < bs.length
        · have k2 : (255 : Int) < (bs.length : Int) := by omega
          have HB : Hid (pairB s.data.toList = (([], []), 41)) := Lib.hid (by rw [HPB.out, HU.out]; simp only []; rw [if_pos (.inr hk2)])
          clear hk1 hk2
          go_wp2_with fail
          obtain ⟨z1, z2⟩ := zero44 HP2.out C2.out (Nat.le_refl _) (.slice none 0 0) (.slice none 0 0)
          exact end56 (by rfl) (by rw [HB.out]; rfl) z1 (fun h => by rw [HB.out] at h; cases h) z2
        · have k2 : ¬ (255 : Int) < (bs.length : Int) := by omega
          have HIf : Hid (¬ (bs.length < 1 ∨ 255 < bs.length)) := Lib.hid (by omega)
          clear hk1 hk2
          go_wp2_with fail
          rw [← HV.out]
          clear s0 s1 sf0 sf1
          refine (runhex_any _ V (by omega)).mono ?_
          rintro e w4 ⟨hans, hc4⟩
          have HAns2 := Lib.hid hans
          have C4 := Lib.hid (C2.out.trans hc4 (fun _ f => f.elim))
          have hp4 := hc4.get HP2.out (fun f => f)
          have HP4 := Lib.hid hp4
          have HNR4 := Lib.hid (HNR.out.chg0 hc4)
          have HSz2 : Hid (w.heap.size + 1 ≤ w2.heap.size) := Lib.hid (by have := HC2.out.size; have := HSz1.out; omega)
          have s0 : w4.cell? ⟨w.heap.size, 0, none⟩ = some (.slice none 0 0) := by rw [Lib.cell_of_heap hp4]; rfl
          have s1 : w4.cell? ⟨w.heap.size, 1, none⟩ = some (.slice none 0 0) := by rw [Lib.cell_of_heap hp4]; rfl
          have sf0 : w4.frozen? ⟨w.heap.size, 0, none⟩ = false := Lib.frozen_of_heap hp4 0
          have sf1 : w4.frozen? ⟨w.heap.size, 1, none⟩ = false := Lib.frozen_of_heap hp4 1
          clear hans hc4 hp4
          rcases HAns2.out with ⟨hu2, rfl⟩ | ⟨va, vs, vc, hu2, rfl, hrow2, hown2⟩
          · rw [HVd.out] at hu2
            have HB : Hid (pairB s.data.toList = (([], []), 201)) := Lib.hid (by rw [HPB.out, HU.out]; simp only []; rw [if_neg HIf.out, hu2])
            clear hu2
            go_wp2_with fail
            obtain ⟨z1, z2⟩ := zero44 HP4.out C4.out (Nat.le_refl _) (.slice none 0 0) (.slice none 0 0)
            exact end56 (by rfl) (by rw [HB.out]; rfl) z1 (fun h => by rw [HB.out] at h; cases h) z2
          · rw [HVd.out] at hu2
            have HNV : Hid (NewRow w w4 (.slice va vs.length vc) vs) := Lib.hid ⟨⟨_, _, rfl⟩, hrow2, fun g e => by have := hown2 g e; have := HSz2.out; omega⟩
            have HNe2 : Hid (∀ g, (Value.slice va vs.length vc).ownBlock = some g → ¬ g = w.heap.size) := Lib.hid (fun g e => by have := hown2 g e; have := HSz2.out; omega)
            have HB : Hid (pairB s.data.toList = ((bs, vs), mayB bs vs none)) := Lib.hid (by rw [HPB.out, HU.out]; simp only []; rw [if_neg HIf.out, hu2])
            have hvl : vs.length ≤ 268435456 := by
              have h1 := congrArg List.length (hex_unhex hu2)
              have h2 : (s.data.toList.drop (m + 1)).length ≤ 268435456 := by rw [← HVd.out]; simpa using hVs
              unfold hexB at h1
              split at h1
              · rename_i h4; rw [h4]; simp
              · rw [hexs_length] at h1; omega
            clear hu2 hrow2 hown2
            by_cases hv3 : 262144 < vs.length
            · have k3 : (262144 : Int) < (vs.length : Int) := by omega
              have HM : Hid (mayB bs vs none = 41) := Lib.hid (by unfold mayB; rw [if_pos (.inr (.inr hv3))])
              clear hv3
              go_wp2_with fail
              obtain ⟨z1, z2⟩ := zero44 HP4.out C4.out (Nat.le_refl _) (.slice none 0 0) (.slice none 0 0)
              exact end56 (by rfl) (by rw [HB.out]; show _ = Value.int .i64 (mayB bs vs none); rw [HM.out]; rfl) z1 (fun h => by rw [HB.out] at h; change mayB bs vs none = 0 at h; rw [HM.out] at h; cases h) z2
            · have k3 : ¬ (262144 : Int) < (vs.length : Int) := by omega
              have HM : Hid (mayB bs vs none = 0) := Lib.hid (by unfold mayB; rw [if_neg (by have := HIf.out; omega)])
              clear hv3
              go_wp2_with fail
              obtain ⟨z1, z2⟩ := zero44 HP4.out C4.out (Nat.le_refl _) (.slice ua bs.length uc) (.slice va vs.length vc)
              have D5 : Chg (fun x => x = w.heap.size) w4 ((w4.setCell ⟨w.heap.size, 0, none⟩ (.slice ua bs.length uc)).setCell ⟨w.heap.size, 1, none⟩ (.slice va vs.length vc)) :=
                ((Chg.refl (fun x => x = w.heap.size) w4).setCell (p := ⟨w.heap.size, 0, none⟩) (.inl rfl) _).setCell (p := ⟨w.heap.size, 1, none⟩) (.inl rfl) _
              refine end56 (by rfl) (by rw [HB.out]; show _ = Value.int .i64 (mayB bs vs none); rw [HM.out]; rfl) z1 (fun _ => ?_) z2
              rw [HB.out]
              exact ⟨HNR4.out.chg D5 HNe1.out, HNV.out.chg D5 HNe2.out⟩
end Go.Proofs.YteejkkidnohcfaaDoor
