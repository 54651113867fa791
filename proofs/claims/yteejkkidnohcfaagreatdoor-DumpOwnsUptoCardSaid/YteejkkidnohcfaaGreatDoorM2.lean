/- Bytes of one's own in a block that may be marked behind them: made by '[]byte(s)', grown by append of a string. -/
import Derived.Test.YteejkkidnohcfaaGreatDoorM1
namespace Go.Proofs.YteejkkidnohcfaaGreatDoor
open Go Go.RowKit Go.Maps

def OwnM (w : World) (B : Nat) (v : Value) (zs : Bytes) : Prop :=
  ∃ g cap cur fz, v = .slice (some ⟨g, 0, none⟩) zs.length cap ∧ B ≤ g ∧ w.heap[g]? = some (.cells cur 5 fz) ∧ (∀ j, zs.length ≤ j → j < cap → ¬ (fz.1 ≤ j ∧ j < fz.2)) ∧ zs.length ≤ cap ∧ cap ≤ maxLen ∧ cur.size = cap ∧ ∀ (j : Nat) (x : UInt8), zs[j]? = some x → cur[j]? = some (bV x)
theorem OwnM.sees {w : World} {B : Nat} {v : Value} {zs : Bytes} (h : OwnM w B v zs) : SeesB w v zs := by
  obtain ⟨g, cap, cur, fz, rfl, _, hg, _, _, _, _, hc⟩ := h
  refine ⟨_, cap, rfl, (fun e => by cases e), fun ad e j y hy => ?_⟩
  cases e
  rw [addr_add, Nat.zero_add]
  simp only [World.cell?, hg]
  simpa using hc j y hy
theorem OwnM.shape {w : World} {B : Nat} {v : Value} {zs : Bytes} (h : OwnM w B v zs) : ∃ g cap, v = .slice (some ⟨g, 0, none⟩) zs.length cap ∧ B ≤ g := by
  obtain ⟨g, cap, cur, fz, rfl, hB, _⟩ := h
  exact ⟨g, cap, rfl, hB⟩
theorem OwnM.chg {w w' : World} {B : Nat} {v : Value} {zs : Bytes} {S : Nat → Prop} (h : OwnM w B v zs) (hc : Chg S w w') (hs : ∀ g, v.ownBlock = some g → ¬ S g) : OwnM w' B v zs := by
  obtain ⟨g, cap, cur, fz, rfl, hB, hg, r⟩ := h
  exact ⟨g, cap, cur, fz, rfl, hB, hc.get hg (hs g rfl), r⟩
theorem OwnM.conv (w : World) (s : ByteArray) (hs : s.size ≤ 1073741824) : ∃ v w', (convert 9 49 (.string s)).run Tryz.prog w = .ok v w' ∧ OwnM w' w.heap.size v s.data.toList ∧ Chg (fun _ => False) w w' := by
  refine ⟨_, _, Lib.run_convert_string_bytes w 9 49 5 s Tryz.underlying9 Tryz.underlying49 Tryz.underlying5, ⟨w.heap.size, grownCap w s.size 0 5, _, _, by simp, Nat.le_refl _, Lib.bytesWorld_at_new w 5 s, fun j h1 h2 => ?_, ?_, ?_, ?_, fun j x hx => ?_⟩, chg_below (Lib.bytesWorld_below _ _ _)⟩
  · have hsz : (Lib.bytesCells w 5 s).size = grownCap w s.size 0 5 := by
      have := grownCap_ge w s.size 0 5
      simp [Lib.bytesCells]; omega
    rw [hsz]
    simp only
    omega
  · simpa using grownCap_ge w s.size 0 5
  · exact grownCap_le_maxLen w s.size 0 5 (by unfold maxLen; omega)
  · have := grownCap_ge w s.size 0 5
    simp [Lib.bytesCells]; omega
  · have hj : j < s.size := by have := (List.getElem?_eq_some_iff.1 hx).1; simpa using this
    unfold Lib.bytesCells
    rw [Array.getElem?_append_left (by simpa using hj), Array.getElem?_map]
    have : s.data[j]? = some x := by rw [← Array.getElem?_toList]; exact hx
    rw [this]; rfl

set_option maxRecDepth 100000 in
theorem OwnM.append {w : World} {B : Nat} {v : Value} {zs : Bytes} (h : OwnM w B v zs) (s : ByteArray) (hl : zs.length + s.size ≤ 1099511627776) (hB : B ≤ w.heap.size) (ty : TypeId) :
    ∃ v' w', (Builtin.append_ #[49, 9] ty #[v, .string s]).run Tryz.prog w = .ok v' w' ∧ OwnM w' B v' (zs ++ s.data.toList) ∧ Chg (fun k => v.ownBlock = some k) w w' ∧ (v'.ownBlock = v.ownBlock ∨ v'.ownBlock = some w.heap.size) := by
  obtain ⟨i1, hi', hz0, hz1, hz2⟩ := info_parts info5
  obtain ⟨g, cap, cur, fz, rfl, hBg, hg, hfz, hnc, hcm, hcs, hc⟩ := h
  have hln : (zs ++ s.data.toList).length = zs.length + s.size := by simp
  have hget : ∀ (j : Nat) (x : UInt8), s.data.toList[j]? = some x → (Lib.strCells s)[j]? = some (bV x) := fun j x hx => by
    rw [strCells_bVs]; exact bVs_at hx
  have hsl : (Lib.strCells s).length = s.size := Lib.strCells_length s
  by_cases hroom : zs.length + s.size ≤ cap
  · have hf := Lib.run_firstCells_string (P := Tryz.prog) w 1 s
    obtain ⟨w', cur', hst, hg', hs', ho', hn', hc'⟩ := store_run Tryz.prog g 5 fz (Lib.strCells s) zs.length 0 cur w hg (fun j hj => hfz _ (by omega) (by omega)) (by omega) (Lib.strCells_oneCell s)
    refine ⟨.slice (some ⟨g, 0, none⟩) (zs.length + s.size) cap, w', ?_, ⟨g, cap, cur', fz, by rw [hln], hBg, hg', fun j h1 h2 => hfz j (by omega) h2, by omega, hcm, by omega, fun j x hx => ?_⟩, hc'.mono (fun k e => by subst e; rfl), Or.inl rfl⟩
    · simp [Builtin.append_, run_underlying Tryz.underlying49, run_underlying Tryz.underlying9, sizeOf, typeInfo, hi', hz1, Builtin.lenOf, hroom, hf, Addr.add_lit, hst]
    · by_cases hj : j < zs.length
      · rw [List.getElem?_append_left hj] at hx
        rw [ho' j (by omega)]; exact hc j x hx
      · rw [List.getElem?_append_right (by omega)] at hx
        have := hn' (j - zs.length) _ (hget _ x hx)
        rwa [show zs.length + 0 + (j - zs.length) = j by omega] at this
  · have hcell : ∀ (j : Nat) (u : Value), (bVs zs)[j]? = some u → w.cell? ((⟨g, 0, none⟩ : Addr).add j) = some u := fun j u hu => by
      obtain ⟨x, hx, rfl⟩ := bVs_get hu
      rw [addr_add, Nat.zero_add]
      simp only [World.cell?, hg]
      simpa using hc j x hx
    have hr := Lib.run_append_grow_string (P := Tryz.prog) w 49 9 ty 5 i1 (.int .u8 0) Tryz.underlying49 Tryz.underlying9 hi' hz0 ⟨g, 0, none⟩ zs.length cap (bVs zs) (by rw [hz1, bVs_length, Nat.mul_one]) hcell s (by omega) (by omega) (by rw [hz2]; exact growslice_fits (by omega) (by omega))
    have hge := grownCap_ge w (zs.length + s.size) cap 5
    have hcm2 : grownCap w (zs.length + s.size) cap 5 ≤ maxLen := grownCap_le_maxLen w (zs.length + s.size) cap 5 (by unfold maxLen; omega)
    refine ⟨_, _, hr, ⟨w.heap.size, _, _, (0, 0), by rw [hln], hB, heap_alloc_new w.drew _, fun j _ _ h => by omega, by omega, hcm2, ?_, fun j x hx => ?_⟩, ((Chg.refl _ w).drew).alloc _, Or.inr rfl⟩
    · have hz1' : (Value.int IntKind.u8 0).cells.size = 1 := rfl
      simp only [Array.size_append, List.size_toArray, size_zeroCells, hz1', bVs_length, hsl]
      omega
    · have hj2 : j < zs.length + s.size := by rw [← hln]; exact (List.getElem?_eq_some_iff.1 hx).1
      rw [Array.getElem?_append_left (by simp [bVs_length, hsl]; omega), ← Array.getElem?_toList, Array.toList_append]
      rw [strCells_bVs, ← bVs_append]
      exact bVs_at hx
end Go.Proofs.YteejkkidnohcfaaGreatDoor
