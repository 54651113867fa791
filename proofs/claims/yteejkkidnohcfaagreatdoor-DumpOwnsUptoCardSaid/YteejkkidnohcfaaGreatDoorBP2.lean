/- Walks: the book's lists of pairs: their marks, and what shows them. -/
import Derived.Test.YteejkkidnohcfaaGreatDoorBK1
import Derived.Test.YteejkkidnohcfaaGreatDoorW12
import Derived.Test.YteejkkidnohcfaaGreatDoorW8
import Derived.Test.YteejkkidnohcfaaGreatDoorM2
import Derived.Deep.LoopGhost
import Derived.Deep.RegionHeld3
import Derived.Deep.DeepCutAuto
import Derived.Outline
import Derived.BigQuiet
import Derived.Handy
namespace Go.Proofs.YteejkkidnohcfaaGreatDoor
open Go Go.RowKit Go.Maps

/-- The letters of the mark of the element j of the list number id, in the pass c. -/
def pairsmark (c id j : Int) : List UInt8 := Lib.itoa (id * 1000 + 2 * j + c)
/-- A marked pair: its key is of nobody's memory. -/
def PEl (w : World) (own : Own) (c id j : Int) (p q : Value) : Prop :=
  q = .slice none 0 0 ∧ SeesB w p (pairsmark c id j) ∧ ∃ g n cap, p = .slice (some ⟨g, 0, none⟩) n cap ∧ own g = none ∧ g < w.heap.size
theorem PEl.step {R : Nat × Nat → Prop} {w w' : World} {own own' : Own} {c id j : Int} {p q : Value} (h : PEl w own c id j p q) (k : OStep R w own w' own') : PEl w' own' c id j p q := by
  obtain ⟨rfl, hs, g, n, cap, rfl, hg, hl⟩ := h
  obtain ⟨h1, h2⟩ := free_step k hl hg
  exact ⟨rfl, hs.chg k.chg (fun ad m c e _ ⟨r, e2, _⟩ => by cases e; rw [hg] at e2; cases e2), g, n, cap, rfl, h1, Nat.lt_of_lt_of_le hl k.chg.size⟩
theorem PEl.chg0 {w w' : World} {own : Own} {c id j : Int} {p q : Value} (h : PEl w own c id j p q) (hc : Chg (fun _ => False) w w') : PEl w' own c id j p q := by
  obtain ⟨rfl, hs, g, n, cap, rfl, hg, hl⟩ := h
  exact ⟨rfl, hs.chg0 hc, g, n, cap, rfl, hg, Nat.lt_of_lt_of_le hl hc.size⟩
theorem PEl.shape {w : World} {own : Own} {c id j : Int} {p q : Value} (h : PEl w own c id j p q) : ∃ g n cap, p = .slice (some ⟨g, 0, none⟩) n cap ∧ q = .slice none 0 0 := by
  obtain ⟨rfl, hs, g, n, cap, rfl, hg, hl⟩ := h
  exact ⟨g, n, cap, rfl, rfl⟩
def PRow (w : World) (own : Own) (c id : Int) (n : Nat) (cs : List Value) : Prop :=
  ∀ j : Nat, j < n → ∃ p q, cs[j * 2]? = some p ∧ cs[j * 2 + 1]? = some q ∧ PEl w own c id j p q
theorem PRow.step {R : Nat × Nat → Prop} {w w' : World} {own own' : Own} {c id : Int} {n : Nat} {cs : List Value} (h : PRow w own c id n cs) (k : OStep R w own w' own') : PRow w' own' c id n cs := fun j hj => by
  obtain ⟨p, q, h1, h2, h3⟩ := h j hj
  exact ⟨p, q, h1, h2, h3.step k⟩
theorem PRow.chg0 {w w' : World} {own : Own} {c id : Int} {n : Nat} {cs : List Value} (h : PRow w own c id n cs) (hc : Chg (fun _ => False) w w') : PRow w' own c id n cs := fun j hj => by
  obtain ⟨p, q, h1, h2, h3⟩ := h j hj
  exact ⟨p, q, h1, h2, h3.chg0 hc⟩
theorem PRow.snoc {w : World} {own : Own} {c id : Int} {n : Nat} {cs : List Value} {p q : Value} (h : PRow w own c id n cs) (hl : cs.length = n * 2) (he : PEl w own c id n p q) : PRow w own c id (n + 1) (cs ++ [p, q]) := fun j hj => by
  by_cases e : j < n
  · obtain ⟨p', q', h1, h2, h3⟩ := h j e
    exact ⟨p', q', by rw [List.getElem?_append_left (by omega)]; exact h1, by rw [List.getElem?_append_left (by omega)]; exact h2, h3⟩
  · obtain rfl : j = n := by omega
    refine ⟨p, q, ?_, ?_, he⟩
    · rw [List.getElem?_append_right (by omega), show j * 2 - cs.length = 0 by omega]; rfl
    · rw [List.getElem?_append_right (by omega), show j * 2 + 1 - cs.length = 1 by omega]; rfl
theorem itoa_len (x : Int) (h0 : 0 ≤ x) (h1 : x ≤ 9223372036854775807) : (Lib.itoa x).length ≤ 20 := by
  rw [itoa_lib' h0]
  exact Nat.le_trans (decB_length 19 x.toNat (by omega)) (by omega)

/-- What a mark's call leaves. -/
def PMade (w : World) (own : Own) (c id j : Int) (p q : Value) (w' : World) : Prop := PEl w' own c id j p q ∧ Chg (fun _ => False) w w' ∧ ∀ g, p.ownBlock = some g → w.heap.size ≤ g
set_option maxRecDepth 100000 in
set_option maxHeartbeats 4000000 in
theorem textsmark_any (w : World) (hE : Env w) (own : Own) (b : Nat) (F : Nat → Value) (hb : BookF 42 w own b F) (c : Int) (hc : F 1 = .int .i64 c) (hcc : 0 ≤ c ∧ c ≤ 1) (id j : Int) (h0 : 0 ≤ id) (h1 : id ≤ 1000000) (h2 : 0 ≤ j) (h3 : j ≤ 1099511627776) :
    Calls Tryz.prog 124 #[.pointer (some ⟨b, 0, none⟩), .int .i64 id, .int .i64 j] w fun e w' => e = .returned (.string ⟨(pairsmark c id j).toArray⟩) ∧ Chg (fun _ => False) w w' := by
  have x1 := hb.cell 1 (by omega)
  rw [hc] at x1
  obtain ⟨c0, c1⟩ := hcc
  have HEn := Lib.hid hE
  clear hb hc hE
  go_enter Tryz.func124, Tryz.ntmps124
  go_wp2_with fail
  refine (itoa_any _ HEn.out (id * 1000 + 2 * j + c) (by omega) (by omega)).mono ?_
  rintro e w' ⟨rfl, hc1⟩
  have HC1 := Lib.hid hc1
  clear hc1
  go_wp2_with fail
  go_ret
  exact ⟨rfl, HC1.out⟩
set_option maxRecDepth 100000 in
set_option maxHeartbeats 4000000 in
theorem blmark_any (w : World) (hE : Env w) (own : Own) (b : Nat) (F : Nat → Value) (hb : BookF 42 w own b F) (c : Int) (hc : F 1 = .int .i64 c) (hcc : 0 ≤ c ∧ c ≤ 1) (id j : Int) (h0 : 0 ≤ id) (h1 : id ≤ 1000000) (h2 : 0 ≤ j) (h3 : j ≤ 1099511627776) :
    Calls Tryz.prog 125 #[.pointer (some ⟨b, 0, none⟩), .int .i64 id, .int .i64 j] w fun e w' => ∃ g n cap, e = .returned (.slice (some ⟨g, 0, none⟩) n cap) ∧ PMade w own c id j (.slice (some ⟨g, 0, none⟩) n cap) (.slice none 0 0) w' := by
  have HT := Lib.hid (textsmark_any w hE own b F hb c hc hcc id j h0 h1 h2 h3)
  have HLt := Lib.hid hb.lt
  have HTs : Hid ((pairsmark c id j).length ≤ 20) := Lib.hid (itoa_len _ (by omega) (by omega))
  clear hb hc hE h0 h1 h2 h3
  go_enter Tryz.func125, Tryz.ntmps125
  go_wp2_with fail
  refine HT.out.mono ?_
  rintro e w1 ⟨rfl, hc1⟩
  have HC1 := Lib.hid hc1
  clear hc1
  obtain ⟨T, hT⟩ : ∃ T : ByteArray, T = ⟨(pairsmark c id j).toArray⟩ := ⟨_, rfl⟩
  have hTl : T.data.toList = pairsmark c id j := by rw [hT]
  have hTs : T.size ≤ 20 := by rw [hT]; show (pairsmark c id j).toArray.size ≤ 20; simpa using HTs.out
  rw [← hT]
  have HTl := Lib.hid hTl
  clear hT hTl
  obtain ⟨v, w2, hk, hM, hc2⟩ := OwnM.conv w1 T (by omega)
  have HM := Lib.hid hM
  have HC2 := Lib.hid hc2
  clear hM hc2
  go_wp2_with fail
  go_ret
  obtain ⟨g, cap, rfl, hg⟩ := HM.out.shape
  have hlt := HM.out.sees.lt _ _ _ rfl
  refine ⟨g, _, cap, rfl, ⟨rfl, by rw [← HTl.out]; exact HM.out.sees, g, _, cap, rfl, ?_, ?_⟩, HC1.out.trans HC2.out (fun _ f => f.elim), fun g' e => by cases e; exact Nat.le_trans HC1.out.size hg⟩
  · cases e2 : own g with
    | none => rfl
    | some r => have := HLt.out g r e2; have := HC1.out.size; omega
  · obtain ⟨g', cap', cur, fz, e, _, hg', _⟩ := HM.out
    cases e
    exact heap_lt hg'
set_option maxRecDepth 100000 in
set_option maxHeartbeats 4000000 in
theorem pairsmark_any (w : World) (hE : Env w) (own : Own) (b : Nat) (F : Nat → Value) (hb : BookF 42 w own b F) (c : Int) (hc : F 1 = .int .i64 c) (hcc : 0 ≤ c ∧ c ≤ 1) (id j : Int) (h0 : 0 ≤ id) (h1 : id ≤ 1000000) (h2 : 0 ≤ j) (h3 : j ≤ 1099511627776) :
    Calls Tryz.prog 127 #[.pointer (some ⟨b, 0, none⟩), .int .i64 id, .int .i64 j] w fun e w' => ∃ g n cap, e = .returned (.agg #[.slice (some ⟨g, 0, none⟩) n cap, .slice none 0 0]) ∧ PMade w own c id j (.slice (some ⟨g, 0, none⟩) n cap) (.slice none 0 0) w' := by
  have HK : Hid (∀ o, Calls Tryz.prog 125 #[.pointer (some ⟨b, 0, none⟩), .int .i64 id, .int .i64 j] (w.alloc o) fun e w' => ∃ g n cap, e = .returned (.slice (some ⟨g, 0, none⟩) n cap) ∧ PMade (w.alloc o) own c id j (.slice (some ⟨g, 0, none⟩) n cap) (.slice none 0 0) w') := Lib.hid (fun o => blmark_any _ (hE.chg0 ((Chg.refl _ w).alloc o)) own b F (hb.step (OStep.of0 (R := fun _ => False) hb.lt ((Chg.refl _ w).alloc o)) (fun f => f)) c hc hcc id j h0 h1 h2 h3)
  have HLt := Lib.hid hb.lt
  clear hb hc hE h0 h1 h2 h3
  have hnew : ∀ o, (w.alloc o).heap[w.heap.size]? = some o := fun o => bk_new w o
  go_enter Tryz.func127, Tryz.ntmps127
  go_wp2_with fail
  refine (HK.out _).mono ?_
  rintro e w1 ⟨g, n, cap, rfl, hel, hc1, hnb⟩
  have HNb := Lib.hid (hnb g rfl)
  clear hnb
  have HEl := Lib.hid hel
  have HC1 := Lib.hid hc1
  have hcell := hc1.get (hnew _) (fun f => f)
  have p0 : w1.cell? ⟨w.heap.size, 0, none⟩ = some (.slice none 0 0) := by simp [World.cell?, hcell]
  have p1 : w1.cell? ⟨w.heap.size, 1, none⟩ = some (.slice none 0 0) := by simp [World.cell?, hcell]
  have f0 : ∀ o, w1.frozen? ⟨w.heap.size, o, none⟩ = false := fun o => by simp [World.frozen?, hcell]
  have p2 : w1.heap.size = w1.heap.size := rfl
  clear hel hc1 hnew
  go_wp2_with fail
  obtain ⟨w2, hw2⟩ : ∃ w2, w2 = (w1.setCell ⟨w.heap.size, 0, none⟩ (.slice (some ⟨g, 0, none⟩) n cap)).setCell ⟨w.heap.size, 1, none⟩ (.slice none 0 0) := ⟨_, rfl⟩
  rw [← hw2]
  have hh : w2.heap[w.heap.size]? = some (.cells #[.slice (some ⟨g, 0, none⟩) n cap, .slice none 0 0] 54) := by
    rw [hw2]
    exact heap_setCell_same _ (heap_setCell_same _ hcell)
  have z0 : w2.cell? ⟨w.heap.size, 0, none⟩ = some (.slice (some ⟨g, 0, none⟩) n cap) := by simp [World.cell?, hh]
  have z1 : w2.cell? ⟨w.heap.size, 1, none⟩ = some (.slice none 0 0) := by simp [World.cell?, hh]
  have hcz : Chg (fun k => k = w.heap.size) w1 w2 := by
    rw [hw2]
    exact ((Chg.refl (fun k => k = w.heap.size) w1).setCell (p := ⟨w.heap.size, 0, none⟩) (.inl rfl) _).setCell (p := ⟨w.heap.size, 1, none⟩) (.inl rfl) _
  refine bodyPost_ret (by simp [results, Tryz.results127, go_sem, z0, z1]; try rfl) rfl ?_
  obtain ⟨-, hs, g2, n2, c2, e2, hg, hl⟩ := HEl.out
  have hne : g ≠ w.heap.size := fun e => by
    have h1 := HNb.out
    have h2 : (w.alloc (.cells #[.slice none 0 0, .slice none 0 0] 54)).heap.size = w.heap.size + 1 := Array.size_push _
    omega
  cases e2
  refine ⟨g, n, cap, rfl, ⟨rfl, hs.chg hcz (fun ad m c e _ e2 => by cases e; exact hne e2), g, n, cap, rfl, hg, Nat.lt_of_lt_of_le hl hcz.size⟩, ?_⟩
  exact ⟨(((Chg.refl (fun _ => False) w).alloc _).trans HC1.out (fun _ f => f.elim)).trans hcz (fun x e => .inr (Nat.le_of_eq e.symm)), fun g' e => by
    obtain rfl : g = g' := by simpa [Value.ownBlock] using e
    have h1 := HNb.out
    have h2 : (w.alloc (.cells #[.slice none 0 0, .slice none 0 0] 54)).heap.size = w.heap.size + 1 := Array.size_push _
    omega⟩
end Go.Proofs.YteejkkidnohcfaaGreatDoor
