/- Both pools begun. -/
import Derived.Test.YtipclbibomemjaaV11
namespace Go.Proofs.Ytipclbibomemjaa
open Go Go.RowKit Go.Maps

theorem app_two {wr : World} {ops : Array Oper} {rest : List Oper} {o : Oper} {a : Act} {Q : Exit → Act → World → Prop} (hgd : o.guard = none) (s x : Operand)
    (ho : o.op = .call { callee := .builtin .append, args := #[s, x], argTypes := #[22, 22] }) (v : Value) (zs : List Int) (hs : a.eval s = v) (hrow : wr.ownsRow 0 3 1 v zs.length (zs.map (Value.int .i64))) (y z : Int)
    (hx : a.eval x = .slice (some ⟨wr.heap.size, 0, none⟩) 2 2) (hl : zs.length ≤ 3000000)
    (h : ∀ g cap w5, w5.ownsRow 0 3 1 (.slice (some ⟨g, 0, none⟩) (zs.length + 2) cap) (zs.length + 2) ((zs ++ [y, z]).map (Value.int .i64)) → Chg (fun k => v.ownBlock = some k) wr w5 → (v.ownBlock = some g ∨ wr.heap.size < g) → wpList Try.prog ops Q rest (a.put o.dst (.slice (some ⟨g, 0, none⟩) (zs.length + 2) cap)) w5) :
    wpList Try.prog ops Q (o :: rest) a (wr.alloc (.cells #[.int .i64 y, .int .i64 z] 3)) := by
  obtain ⟨i1, hi', hz0, hz1, hz2⟩ := info_parts info3
  refine wpList_append_lies _ hgd s x 22 ho 0 3 i1 (.int .i64 0) 1 8 Try.underlying22 hi' hz0 hz1 hz2 rfl (by omega) v zs.length (zs.map (Value.int .i64)) hs (hrow.alloc _) ⟨wr.heap.size, 0, none⟩ 2 2 [.int .i64 y, .int .i64 z] hx (by rfl) (World.news_of_block (cs := #[.int .i64 y, .int .i64 z]) (t := 3) (fr := (0, 0)) (heap_alloc_new wr _)) (by simp [Value.oneCell']) (by omega) (by unfold maxLen; omega) (by omega) (Nat.zero_le _) (wr.heap.size + 1) (Array.size_push _) ?_
  intro g cap w5 h1 h2 h3 _
  refine h g cap w5 (by rw [List.map_append]; exact h1) (((Chg.refl (fun k => v.ownBlock = some k) wr).alloc _).grown h2 (fun k e => .inl e)) (h3.imp id (fun e => by omega))

theorem own_some {g0 g n c : Nat} (h : (Value.slice (some ⟨g0, 0, none⟩) n c).ownBlock = some g) : g0 = g := by
  have e2 : some g0 = some g := h
  injection e2
theorem mark_new {w w0 : World} {g0 g n c : Nat} (h1 : w.heap.size ≤ g0) (h2 : w.heap.size ≤ w0.heap.size) (h : (Value.slice (some ⟨g0, 0, none⟩) n c).ownBlock = some g ∨ w0.heap.size < g) : w.heap.size ≤ g := by
  rcases h with e | e
  · rw [← own_some e]; exact h1
  · omega
/-- A copy with two more behind it. -/
structure Marked (w w' : World) (g cap : Nat) (zs : List Int) : Prop where
  row : w'.ownsRow 0 3 1 (.slice (some ⟨g, 0, none⟩) (zs.length + 2) cap) (zs.length + 2) ((zs ++ [201, 202]).map (Value.int .i64))
  new : w.heap.size ≤ g
theorem Marked.chg0 {w w1 w2 : World} {g cap : Nat} {zs : List Int} {S : Nat → Prop} (h : Marked w w1 g cap zs) (hc : Chg S w1 w2) (hs : ¬ S g) : Marked w w2 g cap zs :=
  ⟨ownsRow_chg h.row hc (fun g' e f => by have e2 : some g = some g' := e; injection e2 with e3; exact hs (e3 ▸ f)), h.new⟩
theorem Marked.lt {w w' : World} {g cap : Nat} {zs : List Int} (h : Marked w w' g cap zs) : g < w'.heap.size := ownsRow_lt h.row rfl
theorem Marked.cap {w w' : World} {g cap : Nat} {zs : List Int} (h : Marked w w' g cap zs) : zs.length + 2 ≤ cap := by
  obtain ⟨_, _, e, h1, _⟩ := ownsRow_slice h.row
  cases e; exact h1
theorem Marked.sees {w w' : World} {g cap : Nat} {zs : List Int} (h : Marked w w' g cap zs) : SeesI w' (.slice (some ⟨g, 0, none⟩) zs.length cap) zs := by
  refine ⟨_, _, rfl, (fun e => by cases e), fun ad e j x hx => ?_⟩
  cases e
  have hj := (List.getElem?_eq_some_iff.1 hx).1
  rw [addr_add, Nat.zero_add, h.row.cellAt j (by omega), List.getElem?_map, List.getElem?_append_left hj, hx]; rfl
theorem Marked.marks {w w' : World} {g cap : Nat} {zs : List Int} (h : Marked w w' g cap zs) : w'.cell? ⟨g, zs.length, none⟩ = some (.int .i64 201) ∧ w'.cell? ⟨g, zs.length + 1, none⟩ = some (.int .i64 202) := by
  rw [h.row.cellAt zs.length (by omega), h.row.cellAt (zs.length + 1) (by omega), List.getElem?_map, List.getElem?_map, List.getElem?_append_right (Nat.le_refl _), List.getElem?_append_right (by omega)]
  simp

set_option maxRecDepth 100000 in
set_option maxHeartbeats 8000000 in
theorem begin_no (w : World) (v : Value) (zs : List Int) (h : SeesI w v zs) (count cap : Int) (hl : zs.length ≤ 4000) (hno : ¬ newOk count cap zs) :
    Calls Try.prog 8 #[.int .i64 count, .int .i64 cap, v] w fun e w' => ∃ b, e = .returned (.tuple #[.pointer (some ⟨b, 0, none⟩), .bool true]) ∧ w'.heap[b]? = some (.cells #[.pointer none, .pointer none] 30) ∧ Chg (fun _ => False) w w' ∧ w.heap.size ≤ b := by
  have HS := Lib.hid h
  have HY := Lib.hid hno
  obtain ⟨a, c, rfl⟩ := h.slice
  obtain ⟨n, hn⟩ : ∃ n, n = zs.length := ⟨_, rfl⟩
  have HN := Lib.hid hn
  have hl6 : zs.length ≤ 1000000 := by omega
  have hl9 : zs.length ≤ 9223372036854775807 := by omega
  clear h hno hn
  go_enter Try.func8, Try.ntmps8
  go_wp2_with fail
  refine (ints_any _ _ zs HS.out hl6).mono ?_
  rintro e w0 ⟨g0, cap0, rfl, hN0, hc0⟩
  have N0 := Lib.hid hN0
  have C0 := Lib.hid hc0
  clear hN0 hc0
  go_wp2_with (first
    | (at_builtin; refine app_two rfl _ _ rfl (.slice (some ⟨g0, 0, none⟩) zs.length cap0) zs rfl N0.out.1 201 202 rfl (by omega) ?_; intro g cp w1 hr1 hc1 hat1; have M1 : Hid (Marked w w1 g cp zs) := Lib.hid ⟨hr1, mark_new (N0.out.2 g0 rfl) C0.out.size hat1⟩; have C1 : Hid (Chg (fun _ => False) w w1) := Lib.hid (C0.out.news hc1 N0.out.2); have hcp : zs.length + 2 ≤ cp := M1.out.cap; have hnc : (zs.length : Int) ≤ (cp : Int) := (by omega); have hn0 : (0 : Int) ≤ (zs.length : Int) := (by omega); clear hr1 hc1 hat1)
    | fail)
  refine (new_no _ _ zs M1.out.sees _ _ hl9 HY.out).mono ?_
  rintro e w3 ⟨rfl, rfl⟩
  go_wp2_with fail
  refine (rnew_no _ _ zs (HS.out.chg0 C1.out) _ _ hl6 HY.out).mono ?_
  rintro e w4 ⟨rfl, hc⟩
  have M4 := Lib.hid (M1.out.chg0 hc (fun f => f))
  have C4 := Lib.hid (C1.out.trans hc (fun _ f => f.elim))
  clear hc
  have M5 := Lib.hid (M4.out.chg0 ((Chg.refl (fun _ => False) w4).alloc (.cells #[.pointer none, .pointer none] 30)) (fun f => f))
  have C5 := Lib.hid (C4.out.alloc (.cells #[.pointer none, .pointer none] 30))
  have B5 := Lib.hid (heap_alloc_new w4 (.cells #[.pointer none, .pointer none] 30))
  go_wp2_with fail
  obtain ⟨b, hb⟩ : ∃ b, b = w4.heap.size := ⟨_, rfl⟩
  have HB := Lib.hid hb
  rw [← hb] at B5
  obtain ⟨w5, hw5⟩ : ∃ w5, w5 = w4.alloc (.cells #[.pointer none, .pointer none] 30) := ⟨_, rfl⟩
  rw [← hw5] at M5 C5 B5
  have HW5 := Lib.hid hw5
  try rw [← hb]
  rw [← hw5]
  clear hb hw5
  refine (sameI_yes _ _ _ zs M5.out.sees (HS.out.chg0 C5.out) hl9).mono ?_
  rintro e w6 ⟨rfl, hc⟩
  have M6 := Lib.hid (M5.out.chg0 hc (fun f => f))
  have C6 := Lib.hid (C5.out.trans hc (fun _ f => f.elim))
  have B6 := Lib.hid (hc.get B5.out (fun f => f))
  have D6 := Lib.hid hc
  obtain ⟨k1, k2⟩ := M6.out.marks
  have i1 : (zs.length : Int) < ((zs.length + 2 : Nat) : Int) := by omega
  have i2 : ((zs.length : Int) + 1) < ((zs.length + 2 : Nat) : Int) := by omega
  clear hc
  go_wp2_with fail
  have D6h := Lib.hid D6.out
  have HK : Hid (g < b ∧ w.heap.size ≤ b ∧ b < w6.heap.size) := Lib.hid (by
    have h1 := M4.out.lt
    have h2 := C4.out.size
    have h3 := HB.out
    have h4 := heap_lt B6.out
    omega)
  clear k1 k2 i1 i2
  go_loopg [12] (zs.length + 2) (fun gm iv wr => ∃ (k : Nat) (xs : List Value), k ≤ zs.length + 2 ∧ gm = zs.length + 2 - k ∧ iv = .int .i64 k ∧ wr.ownsRow 0 3 1 (.slice (some ⟨g, 0, none⟩) (zs.length + 2) cp) (zs.length + 2) xs ∧ Chg (fun x => x = g) w6 wr)
  case atStart => exact ⟨0, _, by omega, rfl, rfl, M6.out.row, Chg.refl _ _⟩
  case round =>
    obtain ⟨k, xs, hk, hg, rfl, hrow, hch⟩ := hrel
    have Hg := Lib.hid hg
    have HRow := Lib.hid hrow
    have HCh := Lib.hid hch
    have hxl : xs.length = (zs.length + 2) * 1 := hrow.1
    clear hg hch
    by_cases hlt : k < zs.length + 2
    · obtain ⟨x, hx⟩ : ∃ x, xs[k]? = some x := ⟨_, List.getElem?_eq_getElem (by omega)⟩
      have cx : wr.cell? ⟨g, k, none⟩ = some x := by rw [hrow.cellAt k (by omega)]; exact hx
      have fx : wr.frozen? ⟨g, k, none⟩ = false := hrow.frozenAt k
      have hki : (k : Int) < (zs.length : Int) + 2 := by omega
      have hk0 : (0 : Int) ≤ (k : Int) := by omega
      have HL : Hid (k < xs.length) := Lib.hid (by omega)
      clear hx hrow hxl
      go_wp2_with fail
      go_roundg (zs.length + 2 - (k + 1))
      case measure => have := Hg.out; omega
      case rel => exact ⟨k + 1, xs.set k (.int .i64 7), by omega, rfl, by go_num, ownsRow_setCell HRow.out k _ HL.out, HCh.out.setCell (p := ⟨g, k, none⟩) (.inl rfl) _⟩
    · have hB : wr.heap[b]? = some (.cells #[.pointer none, .pointer none] 30) := HCh.out.get B6.out (fun e => by have := HK.out.1; omega)
      have cb0 : wr.cell? ⟨b, 0, none⟩ = some (.pointer none) := by simp [World.cell?, hB]
      have cb1 : wr.cell? ⟨b, 1, none⟩ = some (.pointer none) := by simp [World.cell?, hB]
      have HBl := Lib.hid hB
      have hki : ¬ (k : Int) < (zs.length : Int) + 2 := by omega
      clear hB hrow hxl
      go_wp2_with fail
      go_quiet (fail)
      go_wp2_with fail
      go_ret2
      refine ⟨b, rfl, HBl.out, (C6.out.news HCh.out (fun x e => by rw [e]; exact M4.out.new)).drewN _, HK.out.2.1⟩

set_option maxRecDepth 100000 in
set_option maxHeartbeats 8000000 in
theorem begin_yes (w : World) (v : Value) (zs : List Int) (h : SeesI w v zs) (count cap : Int) (hl : zs.length ≤ 4000) (hyes : newOk count cap zs) :
    Calls Try.prog 8 #[.int .i64 count, .int .i64 cap, v] w fun e w' => ∃ b pb m1 m2 rb T T2, e = .returned (.tuple #[.pointer (some ⟨b, 0, none⟩), .bool true]) ∧ PairF w' T b pb m1 m2 rb T2 (PS.new count cap zs) ∧ Chg (fun _ => False) w w' ∧ ∀ k, T k → w.heap.size ≤ k := by
  have HS := Lib.hid h
  have HY := Lib.hid hyes
  obtain ⟨a, c, rfl⟩ := h.slice
  obtain ⟨n, hn⟩ : ∃ n, n = zs.length := ⟨_, rfl⟩
  have HN := Lib.hid hn
  have hl6 : zs.length ≤ 1000000 := by omega
  have hl9 : zs.length ≤ 9223372036854775807 := by omega
  clear h hyes hn
  go_enter Try.func8, Try.ntmps8
  go_wp2_with fail
  refine (ints_any _ _ zs HS.out hl6).mono ?_
  rintro e w0 ⟨g0, cap0, rfl, hN0, hc0⟩
  have N0 := Lib.hid hN0
  have C0 := Lib.hid hc0
  clear hN0 hc0
  go_wp2_with (first
    | (at_builtin; refine app_two rfl _ _ rfl (.slice (some ⟨g0, 0, none⟩) zs.length cap0) zs rfl N0.out.1 201 202 rfl (by omega) ?_; intro g cp w1 hr1 hc1 hat1; have M1 : Hid (Marked w w1 g cp zs) := Lib.hid ⟨hr1, mark_new (N0.out.2 g0 rfl) C0.out.size hat1⟩; have C1 : Hid (Chg (fun _ => False) w w1) := Lib.hid (C0.out.news hc1 N0.out.2); have hcp : zs.length + 2 ≤ cp := M1.out.cap; have hnc : (zs.length : Int) ≤ (cp : Int) := (by omega); have hn0 : (0 : Int) ≤ (zs.length : Int) := (by omega); clear hr1 hc1 hat1)
    | fail)
  refine (new_yes _ _ zs M1.out.sees _ _ hl6 HY.out).mono ?_
  rintro e w3 ⟨pb, m1, m2, rfl, hp, hc, g0, g1, g2⟩
  have hltg := M1.out.lt
  have M3 := Lib.hid (M1.out.chg0 hc (fun f => f))
  have C3 := Lib.hid (C1.out.trans hc (fun _ f => f.elim))
  have P3 := Lib.hid hp
  have G3 : Hid (g < pb ∧ g < m1 ∧ g < m2) := Lib.hid ⟨by omega, by omega, by omega⟩
  clear hp hc g0 g1 g2 hltg M1 C1
  go_wp2_with fail
  refine (rnew_yes _ _ zs (HS.out.chg0 C3.out) _ _ hl6 HY.out).mono ?_
  rintro e w4 ⟨rb, T2, rfl, hr, hc, hT⟩
  have M4 := Lib.hid (M3.out.chg0 hc (fun f => f))
  have C4 := Lib.hid (C3.out.trans hc (fun _ f => f.elim))
  have P4 := Lib.hid (P3.out.chg0 hc)
  have R4 := Lib.hid hr
  have hT4 : Hid (∀ k, T2 k → w3.heap.size ≤ k) := Lib.hid hT
  have L3 : Hid (pb < w3.heap.size ∧ m1 < w3.heap.size ∧ m2 < w3.heap.size ∧ g < w3.heap.size) := Lib.hid ⟨P3.out.lt.1, P3.out.lt.2.1, P3.out.lt.2.2, M3.out.lt⟩
  have hcz4 : Hid (w3.heap.size ≤ w4.heap.size ∧ w.heap.size ≤ w3.heap.size) := Lib.hid ⟨hc.size, C3.out.size⟩
  clear hc
  have M5 := Lib.hid (M4.out.chg0 ((Chg.refl (fun _ => False) w4).alloc (.cells #[.pointer (some ⟨pb, 0, none⟩), .pointer (some ⟨rb, 0, none⟩)] 30)) (fun f => f))
  have C5 := Lib.hid (C4.out.alloc (.cells #[.pointer (some ⟨pb, 0, none⟩), .pointer (some ⟨rb, 0, none⟩)] 30))
  have B5 := Lib.hid (heap_alloc_new w4 (.cells #[.pointer (some ⟨pb, 0, none⟩), .pointer (some ⟨rb, 0, none⟩)] 30))
  go_wp2_with fail
  obtain ⟨b, hb⟩ : ∃ b, b = w4.heap.size := ⟨_, rfl⟩
  have HB := Lib.hid hb
  rw [← hb] at B5
  obtain ⟨w5, hw5⟩ : ∃ w5, w5 = w4.alloc (.cells #[.pointer (some ⟨pb, 0, none⟩), .pointer (some ⟨rb, 0, none⟩)] 30) := ⟨_, rfl⟩
  rw [← hw5] at M5 C5 B5
  have HW5 := Lib.hid hw5
  try rw [← hb]
  rw [← hw5]
  clear hb hw5
  refine (sameI_yes _ _ _ zs M5.out.sees (HS.out.chg0 C5.out) hl9).mono ?_
  rintro e w6 ⟨rfl, hc⟩
  have M6 := Lib.hid (M5.out.chg0 hc (fun f => f))
  have C6 := Lib.hid (C5.out.trans hc (fun _ f => f.elim))
  have B6 := Lib.hid (hc.get B5.out (fun f => f))
  have D6 := Lib.hid hc
  obtain ⟨k1, k2⟩ := M6.out.marks
  have i1 : (zs.length : Int) < ((zs.length + 2 : Nat) : Int) := by omega
  have i2 : ((zs.length : Int) + 1) < ((zs.length + 2 : Nat) : Int) := by omega
  clear hc
  go_wp2_with fail
  have D6h := Lib.hid D6.out
  have HK : Hid (g < b ∧ w.heap.size ≤ b ∧ b < w6.heap.size) := Lib.hid (by
    have h1 := M4.out.lt
    have h2 := C4.out.size
    have h3 := HB.out
    have h4 := heap_lt B6.out
    omega)
  clear k1 k2 i1 i2
  go_loopg [12] (zs.length + 2) (fun gm iv wr => ∃ (k : Nat) (xs : List Value), k ≤ zs.length + 2 ∧ gm = zs.length + 2 - k ∧ iv = .int .i64 k ∧ wr.ownsRow 0 3 1 (.slice (some ⟨g, 0, none⟩) (zs.length + 2) cp) (zs.length + 2) xs ∧ Chg (fun x => x = g) w6 wr)
  case atStart => exact ⟨0, _, by omega, rfl, rfl, M6.out.row, Chg.refl _ _⟩
  case round =>
    obtain ⟨k, xs, hk, hg, rfl, hrow, hch⟩ := hrel
    have Hg := Lib.hid hg
    have HRow := Lib.hid hrow
    have HCh := Lib.hid hch
    have hxl : xs.length = (zs.length + 2) * 1 := hrow.1
    clear hg hch
    by_cases hlt : k < zs.length + 2
    · obtain ⟨x, hx⟩ : ∃ x, xs[k]? = some x := ⟨_, List.getElem?_eq_getElem (by omega)⟩
      have cx : wr.cell? ⟨g, k, none⟩ = some x := by rw [hrow.cellAt k (by omega)]; exact hx
      have fx : wr.frozen? ⟨g, k, none⟩ = false := hrow.frozenAt k
      have hki : (k : Int) < (zs.length : Int) + 2 := by omega
      have hk0 : (0 : Int) ≤ (k : Int) := by omega
      have HL : Hid (k < xs.length) := Lib.hid (by omega)
      clear hx hrow hxl
      go_wp2_with fail
      go_roundg (zs.length + 2 - (k + 1))
      case measure => have := Hg.out; omega
      case rel => exact ⟨k + 1, xs.set k (.int .i64 7), by omega, rfl, by go_num, ownsRow_setCell HRow.out k _ HL.out, HCh.out.setCell (p := ⟨g, k, none⟩) (.inl rfl) _⟩
    · have hB : wr.heap[b]? = some (.cells #[.pointer (some ⟨pb, 0, none⟩), .pointer (some ⟨rb, 0, none⟩)] 30) := HCh.out.get B6.out (fun e => by have := HK.out.1; omega)
      have cb0 : wr.cell? ⟨b, 0, none⟩ = some (.pointer (some ⟨pb, 0, none⟩)) := by simp [World.cell?, hB]
      have cb1 : wr.cell? ⟨b, 1, none⟩ = some (.pointer (some ⟨rb, 0, none⟩)) := by simp [World.cell?, hB]
      have HBl := Lib.hid hB
      have hki : ¬ (k : Int) < (zs.length : Int) + 2 := by omega
      clear hB hrow hxl
      go_wp2_with fail
      go_quiet (fail)
      go_wp2_with fail
      go_ret2
      have hd6 : Chg (fun _ => False) (w4.alloc (.cells #[.pointer (some ⟨pb, 0, none⟩), .pointer (some ⟨rb, 0, none⟩)] 30)) w6 := by
        have h := D6.out
        rw [HW5.out] at h; exact h
      have hgo : Chg (fun x => x = g) w4 wr := (((Chg.refl (fun x => x = g) w4).alloc _).trans hd6 (fun _ f => f.elim)).trans HCh.out (fun x e => .inl e)
      obtain ⟨g1, g2, g3⟩ := G3.out
      obtain ⟨l0, l1, l2, lg⟩ := L3.out
      have hb1 := HB.out
      have hPw : PoolF wr pb m1 m2 (PS.new count cap zs) := P4.out.chg hgo (by omega) (by omega) (by omega)
      have hRw : RfAt wr T2 rb (PS.new count cap zs) := R4.out.chg hgo (fun k e f => by have h1 := hT4.out k e; have h2 : k = g := f; omega)
      have hT4' := hT4.out
      have hlt4 := R4.out.lt
      have hsw := hgo.size
      have hc3 := hcz4.out
      refine ⟨b, pb, m1, m2, rb, (fun k => k = b ∨ k = pb ∨ k = m1 ∨ k = m2 ∨ T2 k), T2, rfl, PairF.chg0 ⟨HBl.out, hPw, hRw, .inl rfl, .inr (.inl rfl), .inr (.inr (.inl rfl)), .inr (.inr (.inr (.inl rfl))), fun k e => .inr (.inr (.inr (.inr e))), by omega, by omega, by omega, fun e => by have := hlt4 b e; omega, fun e => by have := hT4' _ e; omega, fun e => by have := hT4' _ e; omega, fun e => by have := hT4' _ e; omega, fun k e => ?_⟩ ((Chg.refl (fun _ => False) wr).drewN _), (C6.out.news HCh.out (fun x e => by rw [e]; exact M4.out.new)).drewN _, fun k e => ?_⟩
      · have hbw := HK.out.2.2
        have hs6 := HCh.out.size
        rcases e with e | e | e | e | e
        · omega
        · omega
        · omega
        · omega
        · have := hlt4 k e; omega
      · have hn := M4.out.new
        rcases e with e | e | e | e | e
        · have := HK.out.2.1; omega
        · omega
        · omega
        · omega
        · have := hT4' k e; omega
end Go.Proofs.Ytipclbibomemjaa
