/- Walks: pairOf. -/
import Derived.Test.YteejkkidnohcfaaGreatDoorW5
import Derived.Test.YteejkkidnohcfaaGreatDoorW7
import Derived.Test.YteejkkidnohcfaaGreatDoorW8
import Derived.Deep.RegionHeld3
import Derived.Handy
namespace Go.Proofs.YteejkkidnohcfaaGreatDoor
open Go Go.RowKit Go.Maps

/-- New bytes of one's own. -/
def NewRow (w w' : World) (v : Value) (bs : Bytes) : Prop := (∃ a c, v = .slice a bs.length c) ∧ w'.ownsRow 0 5 1 v bs.length (bVs bs) ∧ ∀ g, v.ownBlock = some g → w.heap.size ≤ g
/-- What pairOf answers. -/
def PairAns (w w' : World) (t : Bytes) (last : Option Bytes) (e : Ending) : Prop :=
  ∃ kv uv, (∃ a n c, kv = .slice a n c) ∧ (∃ a n c, uv = .slice a n c) ∧ e = .returned (.tuple #[.agg #[kv, uv], .int .i64 (lineB t last).2]) ∧ ((lineB t last).2 = 0 → NewRow w w' kv (lineB t last).1.1 ∧ NewRow w w' uv (lineB t last).1.2 ∧ ∀ g, kv.ownBlock = some g → uv.ownBlock ≠ some g)

theorem contains_index (c : UInt8) (l : Bytes) : decide (0 ≤ Lib.indexByte l c) = decide (c ∈ l) := by
  rw [Bool.eq_iff_iff, decide_eq_true_eq, decide_eq_true_eq]
  induction l with
  | nil => simp [Lib.indexByte]
  | cons b l ih =>
    unfold Lib.indexByte
    by_cases h : b = c
    · subst h; simp
    · have h1 : (b == c) = false := by rw [beq_eq_false_iff_ne]; exact h
      rw [h1]
      simp only [Bool.false_eq_true, if_false]
      rw [List.mem_cons]
      have hge : -1 ≤ Lib.indexByte l c := by
        clear ih
        induction l with
        | nil => simp [Lib.indexByte]
        | cons x l ih => unfold Lib.indexByte; split; · omega
                         · split <;> omega
      by_cases h2 : Lib.indexByte l c = -1
      · rw [h2] at ih ⊢
        simp only [beq_self_eq_true, if_true]
        constructor
        · intro h3; omega
        · rintro (h3 | h3)
          · exact (h h3.symm).elim
          · have := ih.2 h3; omega
      · have h3 : (Lib.indexByte l c == -1) = false := by rw [beq_eq_false_iff_ne]; exact h2
        rw [h3]
        simp only [Bool.false_eq_true, if_false]
        constructor
        · intro _; exact .inr (ih.1 (by omega))
        · intro _; omega

theorem res44 {w : World} {tmps : Array Value} {b : Nat} {k u c : Value} (h6 : tmps[6]?.getD undef = .pointer (some ⟨b, 0, none⟩)) (h7 : tmps[7]?.getD undef = c) (c0 : w.cell? ⟨b, 0, none⟩ = some k) (c1 : w.cell? ⟨b, 1, none⟩ = some u) :
    (results Tryz.f22 tmps).run Tryz.prog w = .ok (.tuple #[.agg #[k, u], c]) w := by
  simp [results, Tryz.results22, go_sem, h6, h7, c0, c1]

theorem end44 {w w2 : World} {tmps : Array Value} {b : Nat} {a1 a2 : Option Addr} {n1 n2 c1 c2 : Nat} {t : Bytes} {last : Option Bytes} {fz : Nat × Nat} (h6 : tmps[6]?.getD undef = .pointer (some ⟨b, 0, none⟩)) (h7 : tmps[7]?.getD undef = .int .i64 (lineB t last).2) (hp : w2.heap[b]? = some (.cells #[.slice a1 n1 c1, .slice a2 n2 c2] 54 fz))
    (hok : (lineB t last).2 = 0 → NewRow w w2 (.slice a1 n1 c1) (lineB t last).1.1 ∧ NewRow w w2 (.slice a2 n2 c2) (lineB t last).1.2 ∧ ∀ g, (Value.slice a1 n1 c1).ownBlock = some g → (Value.slice a2 n2 c2).ownBlock ≠ some g) (hc : Chg (fun _ => False) w w2) :
    bodyPost Tryz.prog Tryz.f22 (fun e w' => PairAns w w' t last e ∧ Chg (fun _ => False) w w') .ret ⟨tmps, []⟩ w2 := by
  refine bodyPost_ret (res44 h6 h7 (k := .slice a1 n1 c1) (u := .slice a2 n2 c2) (by rw [Lib.cell_of_heap hp]; rfl) (by rw [Lib.cell_of_heap hp]; rfl)) rfl ?_
  exact ⟨⟨_, _, ⟨_, _, _, rfl⟩, ⟨_, _, _, rfl⟩, rfl, hok⟩, hc⟩
theorem zero44 {w w1 : World} {b : Nat} {k u : Value} (hp : w1.heap[b]? = some (.cells #[k, u] 54)) (hc : Chg (fun _ => False) w w1) (hb : w.heap.size ≤ b) (k' u' : Value) :
    ((w1.setCell ⟨b, 0, none⟩ k').setCell ⟨b, 1, none⟩ u').heap[b]? = some (.cells #[k', u'] 54) ∧ Chg (fun _ => False) w ((w1.setCell ⟨b, 0, none⟩ k').setCell ⟨b, 1, none⟩ u') :=
  ⟨heap_setCell_same _ (heap_setCell_same _ hp), (hc.setCell (p := ⟨b, 0, none⟩) (.inr hb) _).setCell (p := ⟨b, 1, none⟩) (.inr hb) _⟩

set_option maxRecDepth 100000 in
set_option maxHeartbeats 8000000 in
theorem pairOf_any (w : World) (hE : Env w) (s : ByteArray) (hs : s.size ≤ 268435456) (lv : Value) (first : Bool) (last : Option Bytes) (hl : LastIs w lv first last) :
    Calls Tryz.prog 22 #[.string s, lv, .bool first] w fun e w' => PairAns w w' s.data.toList last e ∧ Chg (fun _ => False) w w' := by
  have HE := Lib.hid hE
  have HL := Lib.hid hl
  obtain ⟨la, lnn, lc, rfl⟩ := hl.slice
  clear hE hl
  have CA : Hid (Chg (fun _ => False) w (w.alloc (.cells #[.slice none 0 0, .slice none 0 0] 54))) := Lib.hid ((Chg.refl _ w).alloc _)
  go_enter Tryz.func22, Tryz.ntmps22
  go_wp2_with (go_at_call 19; refine (cut_any _ (HE.out.chg0 CA.out) s 32 (by omega)).mono ?_)
  rintro e w1 ⟨hans, hc1⟩
  have C1 := Lib.hid (CA.out.trans hc1 (fun _ f => f.elim))
  have hp1 := hc1.get (heap_alloc_new w _) (fun f => f)
  have HP1 := Lib.hid hp1
  have r0 : w1.cell? ⟨w.heap.size, 0, none⟩ = some (.slice none 0 0) := by rw [Lib.cell_of_heap hp1]; rfl
  have r1 : w1.cell? ⟨w.heap.size, 1, none⟩ = some (.slice none 0 0) := by rw [Lib.cell_of_heap hp1]; rfl
  have rf0 : w1.frozen? ⟨w.heap.size, 0, none⟩ = false := Lib.frozen_of_heap hp1 0
  have rf1 : w1.frozen? ⟨w.heap.size, 1, none⟩ = false := Lib.frozen_of_heap hp1 1
  clear hc1 hp1
  rcases hans with ⟨hcut, rfl⟩ | ⟨ka, kb, hcut, rfl⟩
  · have HB : Hid (lineB s.data.toList last = (([], []), 200)) := Lib.hid (by unfold lineB; rw [hcut])
    clear hcut
    go_wp2_with fail
    obtain ⟨z1, z2⟩ := zero44 HP1.out C1.out (Nat.le_refl _) (.slice none 0 0) (.slice none 0 0)
    exact end44 (by rfl) (by rw [HB.out]; rfl) z1 (fun h => by rw [HB.out] at h; cases h) z2
  · have HCut := Lib.hid hcut
    have hsz := (cutAt_some hcut).1
    obtain ⟨K, hK⟩ : ∃ K : ByteArray, K = ⟨ka.toArray⟩ := ⟨_, rfl⟩
    obtain ⟨V, hV⟩ : ∃ V : ByteArray, V = ⟨kb.toArray⟩ := ⟨_, rfl⟩
    rw [← hK, ← hV]
    have hlen : ka.length + kb.length + 1 = s.size := by
      have h1 := congrArg List.length hsz
      simp at h1; omega
    have HKt : Hid (K.toList = ka) := Lib.hid (by rw [Lib.toList_data, hK])
    have HVt : Hid (V.toList = kb) := Lib.hid (by rw [Lib.toList_data, hV])
    have HKd : Hid (K.data.toList = ka) := Lib.hid (by rw [hK])
    have HVd : Hid (V.data.toList = kb) := Lib.hid (by rw [hV])
    have hKs : K.size ≤ 268435456 := by have : K.size = ka.length := (by rw [hK]; rfl); omega
    have hVs : V.size ≤ 268435456 := by have : V.size = kb.length := (by rw [hV]; rfl); omega
    clear hcut hsz hlen hK hV
    by_cases hk0 : ka = []
    · have b1 : (K.toList == []) = true := by rw [HKt.out, hk0]; rfl
      have HB : Hid (lineB s.data.toList last = (([], []), 200)) := Lib.hid (by unfold lineB; rw [HCut.out]; simp only []; rw [if_pos (.inl hk0)])
      clear hk0
      go_wp2_with fail
      obtain ⟨z1, z2⟩ := zero44 HP1.out C1.out (Nat.le_refl _) (.slice none 0 0) (.slice none 0 0)
      exact end44 (by rfl) (by rw [HB.out]; rfl) z1 (fun h => by rw [HB.out] at h; cases h) z2
    · have b1 : (K.toList == []) = false := by rw [HKt.out, beq_eq_false_iff_ne]; exact hk0
      by_cases hv0 : kb = []
      · have b2 : (V.toList == []) = true := by rw [HVt.out, hv0]; rfl
        have HB : Hid (lineB s.data.toList last = (([], []), 200)) := Lib.hid (by unfold lineB; rw [HCut.out]; simp only []; rw [if_pos (.inr (.inl hv0))])
        clear hk0 hv0
        go_wp2_with fail
        obtain ⟨z1, z2⟩ := zero44 HP1.out C1.out (Nat.le_refl _) (.slice none 0 0) (.slice none 0 0)
        exact end44 (by rfl) (by rw [HB.out]; rfl) z1 (fun h => by rw [HB.out] at h; cases h) z2
      · have b2 : (V.toList == []) = false := by rw [HVt.out, beq_eq_false_iff_ne]; exact hv0
        by_cases hsp : 32 ∈ kb
        · have HCt : Hid (decide (0 ≤ Lib.indexByte V.data.toList 32) = true) := Lib.hid (by rw [contains_index, HVd.out, decide_eq_true_eq]; exact hsp)
          have HB : Hid (lineB s.data.toList last = (([], []), 200)) := Lib.hid (by unfold lineB; rw [HCut.out]; simp only []; rw [if_pos (.inr (.inr hsp))])
          clear hk0 hv0 hsp
          go_wp2_with (go_at_call 41; refine (Tryz.strings_Contains_one V 32 _).mono ?_; rintro e w' ⟨rfl, hw'⟩; obtain rfl : w1 = w' := hw'.symm; rw [HCt.out])
          obtain ⟨z1, z2⟩ := zero44 HP1.out C1.out (Nat.le_refl _) (.slice none 0 0) (.slice none 0 0)
          exact end44 (by rfl) (by rw [HB.out]; rfl) z1 (fun h => by rw [HB.out] at h; cases h) z2
        · have HCt : Hid (decide (0 ≤ Lib.indexByte V.data.toList 32) = false) := Lib.hid (by rw [contains_index, HVd.out, decide_eq_false_iff_not]; exact hsp)
          have HIf : Hid (¬ (ka = [] ∨ kb = [] ∨ 32 ∈ kb)) := Lib.hid (fun h => h.elim hk0 (fun h => h.elim hv0 hsp))
          clear hk0 hv0 hsp
          go_wp2_with (go_at_call 41; refine (Tryz.strings_Contains_one V 32 _).mono ?_; rintro e w' ⟨rfl, hw'⟩; obtain rfl : w1 = w' := hw'.symm; rw [HCt.out])
          have hb1 : w.heap.size < w1.heap.size := heap_lt HP1.out
          refine (unhex_any _ K (by omega)).mono ?_
          rintro e w2 ⟨hans, hc2⟩
          have HAns := Lib.hid hans
          have C2 := Lib.hid ((C1.out.alloc (.cells #[.slice none 0 0, .slice none 0 0] 54)).trans hc2 (fun _ f => f.elim))
          have hp2 := hc2.get (heap_alloc_keep _ HP1.out) (fun f => f)
          have hq2 := hc2.get (heap_alloc_new w1 _) (fun f => f)
          have HP2 := Lib.hid hp2
          have HQ2 := Lib.hid hq2
          have s0 : w2.cell? ⟨w.heap.size, 0, none⟩ = some (.slice none 0 0) := by rw [Lib.cell_of_heap hp2]; rfl
          have s1 : w2.cell? ⟨w.heap.size, 1, none⟩ = some (.slice none 0 0) := by rw [Lib.cell_of_heap hp2]; rfl
          have sf0 : w2.frozen? ⟨w.heap.size, 0, none⟩ = false := Lib.frozen_of_heap hp2 0
          have sf1 : w2.frozen? ⟨w.heap.size, 1, none⟩ = false := Lib.frozen_of_heap hp2 1
          have q0 : w2.cell? ⟨w1.heap.size, 0, none⟩ = some (.slice none 0 0) := by rw [Lib.cell_of_heap hq2]; rfl
          have q1 : w2.cell? ⟨w1.heap.size, 1, none⟩ = some (.slice none 0 0) := by rw [Lib.cell_of_heap hq2]; rfl
          have qf0 : w2.frozen? ⟨w1.heap.size, 0, none⟩ = false := Lib.frozen_of_heap hq2 0
          have qf1 : w2.frozen? ⟨w1.heap.size, 1, none⟩ = false := Lib.frozen_of_heap hq2 1
          have HC2 := Lib.hid hc2
          clear hans hc2 hp2 hq2 r0 r1 rf0 rf1
          have hne1 : ¬ w.heap.size = w1.heap.size := by omega
          have hne2 : ¬ w1.heap.size = w.heap.size := by omega
          rcases HAns.out with ⟨hu, rfl⟩ | ⟨ua, bs, uc, hu, rfl, hrow, hown⟩
          · rw [HKd.out] at hu
            have HB : Hid (lineB s.data.toList last = (([], []), 201)) := Lib.hid (by unfold lineB; rw [HCut.out]; simp only []; rw [if_neg HIf.out, hu])
            clear hu
            go_wp2_with fail
            have HP3 := heap_setCell_other (a := ⟨w1.heap.size, 0, none⟩) (.slice none 0 0) HP2.out hne1
            have C3 := C2.out.setCell (p := ⟨w1.heap.size, 0, none⟩) (.inr (Nat.le_of_lt hb1)) (.slice none 0 0)
            obtain ⟨z1, z2⟩ := zero44 HP3 C3 (Nat.le_refl _) (.slice none 0 0) (.slice none 0 0)
            exact end44 (by rfl) (by rw [HB.out]; rfl) z1 (fun h => by rw [HB.out] at h; cases h) z2
          · rw [HKd.out] at hu
            have HU := Lib.hid hu
            have HRow := Lib.hid hrow
            have HOwn := Lib.hid hown
            have hbl : bs.length ≤ 268435456 := by
              have h1 := congrArg List.length (hex_unhex hu)
              have h2 : ka.length ≤ 268435456 := by have := HKd.out; have h3 : K.data.toList.length = K.size := (by simp); rw [this] at h3; omega
              unfold hexB at h1
              split at h1
              · rename_i h4; rw [h4]; simp
              · rw [hexs_length] at h1; omega
            have HP3 := Lib.hid (heap_setCell_other (a := ⟨w1.heap.size, 0, none⟩) (.slice ua bs.length uc) HP2.out hne1)
            have HQ3 := Lib.hid (heap_setCell_same (o := 0) (.slice ua bs.length uc) HQ2.out)
            have C3 := Lib.hid (C2.out.setCell (p := ⟨w1.heap.size, 0, none⟩) (.inr (Nat.le_of_lt hb1)) (.slice ua bs.length uc))
            have HOn : Hid (∀ g, (Value.slice ua bs.length uc).ownBlock = some g → w1.heap.size < g ∧ g < w2.heap.size) := Lib.hid (fun g e => ⟨by have := HOwn.out g e; simp at this; omega, by
              rcases HRow.out.2 with ⟨e2, e3⟩ | ⟨g2, cp, cur, e2, _, hh, _⟩
              · rw [e2] at e; simp [Value.ownBlock] at e
              · rw [e2] at e; simp only [Value.ownBlock, Option.some.injEq] at e; rw [← e]; exact heap_lt hh⟩)
            have HR3 : Hid ((w2.setCell ⟨w1.heap.size, 0, none⟩ (.slice ua bs.length uc)).ownsRow 0 5 1 (.slice ua bs.length uc) bs.length (bVs bs)) := Lib.hid (ownsRow_chg HRow.out (Chg.setCell (S := fun x => x = w1.heap.size) (Chg.refl _ w2) (p := ⟨w1.heap.size, 0, none⟩) (.inl rfl) _) (fun g e => by have := HOn.out g e; omega))
            clear hu hrow hown
            by_cases hok : 1 ≤ bs.length ∧ bs.length ≤ 255
            · have HV : Hid ((decide (1 ≤ bs.length) && decide (bs.length ≤ 255)) = true) := Lib.hid (by rw [Bool.and_eq_true, decide_eq_true_eq, decide_eq_true_eq]; exact hok)
              have HOk := Lib.hid hok
              clear hok
              go_wp2_with (go_at_call 42; refine (valid_any _ _ _ _ (by omega)).mono ?_; rintro e w5 ⟨rfl, rfl⟩; rw [HV.out])
              clear s0 s1 sf0 sf1 q0 q1 qf0 qf1
              obtain ⟨w3, hw3⟩ : ∃ w3, w3 = w2.setCell ⟨w1.heap.size, 0, none⟩ (.slice ua bs.length uc) := ⟨_, rfl⟩
              rw [← hw3]
              have HW3 := Lib.hid hw3
              rw [← hw3] at HP3 HQ3 C3 HR3
              clear hw3
              refine (unhex_any _ V (by omega)).mono ?_
              rintro e w4 ⟨hans, hc4⟩
              have HAns2 := Lib.hid hans
              have C4 := Lib.hid (C3.out.trans hc4 (fun _ f => f.elim))
              have hp4 := hc4.get HP3.out (fun f => f)
              have hq4 := hc4.get HQ3.out (fun f => f)
              have HP4 := Lib.hid hp4
              have HQ4 := Lib.hid hq4
              have s0 : w4.cell? ⟨w.heap.size, 0, none⟩ = some (.slice none 0 0) := by rw [Lib.cell_of_heap hp4]; rfl
              have s1 : w4.cell? ⟨w.heap.size, 1, none⟩ = some (.slice none 0 0) := by rw [Lib.cell_of_heap hp4]; rfl
              have sf0 : w4.frozen? ⟨w.heap.size, 0, none⟩ = false := Lib.frozen_of_heap hp4 0
              have sf1 : w4.frozen? ⟨w.heap.size, 1, none⟩ = false := Lib.frozen_of_heap hp4 1
              have q0 : w4.cell? ⟨w1.heap.size, 0, none⟩ = some (.slice ua bs.length uc) := by rw [Lib.cell_of_heap hq4]; rfl
              have q1 : w4.cell? ⟨w1.heap.size, 1, none⟩ = some (.slice none 0 0) := by rw [Lib.cell_of_heap hq4]; rfl
              have qf0 : w4.frozen? ⟨w1.heap.size, 0, none⟩ = false := Lib.frozen_of_heap hq4 0
              have qf1 : w4.frozen? ⟨w1.heap.size, 1, none⟩ = false := Lib.frozen_of_heap hq4 1
              have HR4 := Lib.hid (ownsRow_chg HR3.out hc4 (fun _ _ f => f))
              have HSz : Hid (w2.heap.size ≤ w3.heap.size) := Lib.hid (by rw [HW3.out]; simp [World.setCell])
              clear hans hc4 hp4 hq4
              rcases HAns2.out with ⟨hu2, rfl⟩ | ⟨va, vs, vc, hu2, rfl, hrow2, hown2⟩
              · rw [HVd.out] at hu2
                have HB : Hid (lineB s.data.toList last = (([], []), 201)) := Lib.hid (by unfold lineB; rw [HCut.out]; simp only []; rw [if_neg HIf.out, HU.out]; simp only []; rw [if_neg (by have := HOk.out; omega), hu2])
                clear hu2
                go_wp2_with fail
                have HP5 := heap_setCell_other (a := ⟨w1.heap.size, 1, none⟩) (.slice none 0 0) HP4.out hne1
                have C5 := C4.out.setCell (p := ⟨w1.heap.size, 1, none⟩) (.inr (Nat.le_of_lt hb1)) (.slice none 0 0)
                obtain ⟨z1, z2⟩ := zero44 HP5 C5 (Nat.le_refl _) (.slice none 0 0) (.slice none 0 0)
                exact end44 (by rfl) (by rw [HB.out]; rfl) z1 (fun h => by rw [HB.out] at h; cases h) z2
              · rw [HVd.out] at hu2
                have HU2 := Lib.hid hu2
                have HRow2 := Lib.hid hrow2
                have HOwn2 := Lib.hid hown2
                have hvl : vs.length ≤ 268435456 := by
                  have h1 := congrArg List.length (hex_unhex hu2)
                  have h2 : kb.length ≤ 268435456 := by have := HVd.out; have h3 : V.data.toList.length = V.size := (by simp); rw [this] at h3; omega
                  unfold hexB at h1
                  split at h1
                  · rename_i h4; rw [h4]; simp
                  · rw [hexs_length] at h1; omega
                have HB : Hid (lineB s.data.toList last = ((bs, vs), mayB bs vs last)) := Lib.hid (by unfold lineB; rw [HCut.out]; simp only []; rw [if_neg HIf.out, HU.out]; simp only []; rw [if_neg (by have := HOk.out; omega), HU2.out])
                clear hu2 hrow2 hown2
                go_wp2_with fail
                obtain ⟨w5, hw5⟩ : ∃ w5, w5 = w4.setCell ⟨w1.heap.size, 1, none⟩ (.slice va vs.length vc) := ⟨_, rfl⟩
                rw [← hw5]
                have hq5 : w5.heap[w1.heap.size]? = some (.cells #[.slice ua bs.length uc, .slice va vs.length vc] 54) := by rw [hw5]; exact heap_setCell_same _ HQ4.out
                have hp5 : w5.heap[w.heap.size]? = some (.cells #[.slice none 0 0, .slice none 0 0] 54) := by rw [hw5]; exact heap_setCell_other _ HP4.out hne1
                have C5 : Hid (Chg (fun _ => False) w w5) := Lib.hid (by rw [hw5]; exact C4.out.setCell (p := ⟨w1.heap.size, 1, none⟩) (.inr (Nat.le_of_lt hb1)) _)
                have D5 : Hid (Chg (fun x => x = w1.heap.size) w4 w5) := Lib.hid (by rw [hw5]; exact Chg.setCell (S := fun x => x = w1.heap.size) (Chg.refl _ w4) (p := ⟨w1.heap.size, 1, none⟩) (.inl rfl) _)
                have hk5 := ownsRow_chg HR4.out D5.out (fun g e => by have := HOn.out g e; omega)
                have hv5 := ownsRow_chg HRow2.out D5.out (fun g e => by have := HOwn2.out g e; have := HC2.out.size; have := HSz.out; simp at *; omega)
                have HK5 := Lib.hid hk5
                have HV5 := Lib.hid hv5
                have HP5 := Lib.hid hp5
                have HQ5 := Lib.hid hq5
                clear s0 s1 sf0 sf1 q0 q1 qf0 qf1 hk5 hv5 hw5
                have s0 : w5.cell? ⟨w.heap.size, 0, none⟩ = some (.slice none 0 0) := by rw [Lib.cell_of_heap hp5]; rfl
                have s1 : w5.cell? ⟨w.heap.size, 1, none⟩ = some (.slice none 0 0) := by rw [Lib.cell_of_heap hp5]; rfl
                have sf0 : w5.frozen? ⟨w.heap.size, 0, none⟩ = false := Lib.frozen_of_heap hp5 0
                have sf1 : w5.frozen? ⟨w.heap.size, 1, none⟩ = false := Lib.frozen_of_heap hp5 1
                have q0 : w5.cell? ⟨w1.heap.size, 0, none⟩ = some (.slice ua bs.length uc) := by rw [Lib.cell_of_heap hq5]; rfl
                have q1 : w5.cell? ⟨w1.heap.size, 1, none⟩ = some (.slice va vs.length vc) := by rw [Lib.cell_of_heap hq5]; rfl
                clear hp5 hq5
                refine wp_region_noPanic ?_
                go_region_law
                  (go_simp; go_at_call 33; refine (may_any _ _ _ _ bs vs _ last (SeesB.of_row (w := w5.drew) HK5.out) (SeesB.of_row (w := w5.drew) HV5.out) (HL.out.chg0 C5.out.drew) (by omega) (by omega)).mono ?_; rintro e w6 ⟨rfl, hc6⟩; have C6 := Lib.hid hc6; have hp6 := hc6.get HP5.out (fun f => f); have hq6 := hc6.get HQ5.out (fun f => f); have HP6 := Lib.hid hp6; have t0 : w6.cell? ⟨w.heap.size, 0, none⟩ = some (.slice none 0 0) := (by rw [Lib.cell_of_heap hp6]; rfl); have t1 : w6.cell? ⟨w.heap.size, 1, none⟩ = some (.slice none 0 0) := (by rw [Lib.cell_of_heap hp6]; rfl); have tf0 : w6.frozen? ⟨w.heap.size, 0, none⟩ = false := Lib.frozen_of_heap hp6 0; have tf1 : w6.frozen? ⟨w.heap.size, 1, none⟩ = false := Lib.frozen_of_heap hp6 1; have p0 : w6.cell? ⟨w1.heap.size, 0, none⟩ = some (.slice ua bs.length uc) := (by rw [Lib.cell_of_heap hq6]; rfl); have p1 : w6.cell? ⟨w1.heap.size, 1, none⟩ = some (.slice va vs.length vc) := (by rw [Lib.cell_of_heap hq6]; rfl); clear hc6 hp6 hq6)
                all_goals
                  refine NoPanic.normal ?_
                  go_wp2_with fail
                  obtain ⟨z1, z2⟩ := zero44 HP6.out (C5.out.drew.trans C6.out (fun _ f => f.elim)) (Nat.le_refl _) (.slice ua bs.length uc) (.slice va vs.length vc)
                  have hks := HK5.out
                  have D6 : Chg (fun x => x = w.heap.size) w5 ((w6.setCell ⟨w.heap.size, 0, none⟩ (.slice ua bs.length uc)).setCell ⟨w.heap.size, 1, none⟩ (.slice va vs.length vc)) :=
                    (((Chg.refl (fun x => x = w.heap.size) w5).drew.trans C6.out (fun _ f => f.elim)).setCell (p := ⟨w.heap.size, 0, none⟩) (.inl rfl) _).setCell (p := ⟨w.heap.size, 1, none⟩) (.inl rfl) _
                  have OV : ∀ g, (Value.slice va vs.length vc).ownBlock = some g → w2.heap.size ≤ g := fun g e => by have := HOwn2.out g e; have := HSz.out; omega
                  have hw12 : w1.heap.size < w2.heap.size := heap_lt HQ2.out
                  refine end44 (by rfl) (by rw [HB.out]; rfl) z1 (fun _ => ?_) z2
                  rw [HB.out]
                  exact ⟨⟨⟨_, _, rfl⟩, ownsRow_chg HK5.out D6 (fun g e => by have := HOn.out g e; omega), fun g e => by have := HOn.out g e; omega⟩,
                    ⟨⟨_, _, rfl⟩, ownsRow_chg HV5.out D6 (fun g e => by have := OV g e; omega), fun g e => by have := OV g e; omega⟩,
                    fun g e e2 => by have := HOn.out g e; have := OV g e2; omega⟩
            · have HV : Hid ((decide (1 ≤ bs.length) && decide (bs.length ≤ 255)) = false) := Lib.hid (by rw [Bool.and_eq_false_iff, decide_eq_false_iff_not, decide_eq_false_iff_not]; omega)
              have HB : Hid (lineB s.data.toList last = (([], []), 41)) := Lib.hid (by unfold lineB; rw [HCut.out]; simp only []; rw [if_neg HIf.out, HU.out]; simp only []; rw [if_pos (by omega)])
              clear hok
              go_wp2_with (go_at_call 42; refine (valid_any _ _ _ _ (by omega)).mono ?_; rintro e w5 ⟨rfl, rfl⟩; rw [HV.out])
              obtain ⟨z1, z2⟩ := zero44 HP3.out C3.out (Nat.le_refl _) (.slice none 0 0) (.slice none 0 0)
              exact end44 (by rfl) (by rw [HB.out]; rfl) z1 (fun h => by rw [HB.out] at h; cases h) z2
end Go.Proofs.YteejkkidnohcfaaGreatDoor
