/- Walks: a life's gives. -/
import Derived.Test.YtipclbibomemjaaN3
import Derived.BigQuiet
namespace Go.Proofs.Ytipclbibomemjaa
open Go Go.RowKit Go.Maps

theorem row_nil {w : World} {a : Option Addr} {n c : Nat} {xs : List Value} (h : w.ownsRow 0 3 1 (.slice a n c) n xs) : (a = none ∧ n = 0 ∧ c = 0) ∨ ∃ g, a = some ⟨g, 0, none⟩ ∧ n ≤ c := by
  rcases h.2 with ⟨e, h0⟩ | ⟨g, cap, cur, e, _, _, h1, _⟩
  · cases e
    exact .inl ⟨rfl, rfl, rfl⟩
  · cases e; exact .inr ⟨g, rfl, h1⟩
theorem ins_split {zs : List Int} {x : Int} {j : Nat} (h1 : ∀ y ∈ zs.take j, y < x) (h2 : ∀ y, zs[j]? = some y → ¬ y < x) : insK x zs = zs.take j ++ x :: zs.drop j := by
  unfold insK
  have e : zs = zs.take j ++ zs.drop j := (List.take_append_drop j zs).symm
  have hd : ∀ l : List Int, (∀ y, l[0]? = some y → ¬ y < x) → l.takeWhile (fun y => decide (y < x)) = [] ∧ l.dropWhile (fun y => decide (y < x)) = l := by
    intro l hl
    cases l with
    | nil => exact ⟨rfl, rfl⟩
    | cons y r =>
      have := hl y rfl
      constructor
      · rw [List.takeWhile_cons]; simp [this]
      · rw [List.dropWhile_cons]; simp [this]
  obtain ⟨d1, d2⟩ := hd (zs.drop j) (fun y hy => h2 y (by rw [List.getElem?_drop] at hy; simpa using hy))
  have ha : ∀ y ∈ zs.take j, decide (y < x) = true := fun y hy => decide_eq_true (h1 y hy)
  conv => lhs; rw [e]
  rw [List.takeWhile_append_of_pos ha, List.dropWhile_append_of_pos ha, d1, d2, List.append_nil]

theorem app_lit {wr : World} {ops : Array Oper} {rest : List Oper} {o : Oper} {a : Act} {Q : Exit → Act → World → Prop} (hgd : o.guard = none) (s x : Operand)
    (ho : o.op = .call { callee := .builtin .append, args := #[s, x], argTypes := #[22, 22] }) (hs : a.eval s = .slice (some ⟨wr.heap.size, 0, none⟩) 0 0)
    (ad : Addr) (ys : List Int) (m c : Nat) (hx : a.eval x = .slice (some ad) m c) (hm : ys.length = m) (hc : ∀ (j : Nat) (y : Int), ys[j]? = some y → wr.cell? (ad.add j) = some (.int .i64 y)) (hl : m ≤ 3000000)
    (h : ∀ a1 k1 w5, w5.ownsRow 0 3 1 (.slice a1 m k1) m (ys.map (Value.int .i64)) → Chg (fun _ => False) wr w5 → (∀ g, (Value.slice a1 m k1).ownBlock = some g → wr.heap.size ≤ g) → wpList Try.prog ops Q rest (a.put o.dst (.slice a1 m k1)) w5) :
    wpList Try.prog ops Q (o :: rest) a (wr.alloc (.cells #[] 3)) := by
  refine app_ints hgd s x ho _ [] hs (World.ownsRow_lit (base := 0) (e := 3) (size := 1) wr #[] 0 (Nat.zero_le _) (Nat.zero_le _) rfl) ad ys m c hx hm (fun j y hy => ?_) (by show 0 + m ≤ 3000000; omega) ?_
  · have h1 := hc j y hy
    exact (World.cell?_of_block (Below.heap_alloc _ _ _ (World.block_lt_of_cell? _ _ h1))).trans h1
  · intro v' w5 h1 h2 h3
    rw [List.nil_append, hm] at h1
    obtain ⟨a1, k1, rfl, _⟩ := ownsRow_slice h1
    refine h a1 k1 w5 h1 (((Chg.refl (fun _ => False) wr).alloc _).trans h2 (fun y e => .inr ?_)) (fun g e => ?_)
    · have := own_some e; omega
    · rcases h3 g e with e2 | e2
      · have := own_some e2; omega
      · simp at e2; omega
theorem take_get {zs : List Int} {j i : Nat} {y : Int} (h : (zs.take j)[i]? = some y) : zs[i]? = some y := by
  rw [List.getElem?_take] at h
  split at h
  · exact h
  · cases h

set_option maxRecDepth 100000 in
set_option maxHeartbeats 8000000 in
theorem gives_any {w : World} {own : OwnR} {xb pb m1 m2 : Nat} {D : LD} {mv fv sv pv : Value} (h : LifeF w own xb pb m1 m2 D mv fv sv pv) (hl : D.mine.length ≤ 1000000) (n : Int) :
    Calls Try.prog 38 #[.pointer (some ⟨xb, 0, none⟩), .int .i64 n] w fun e w' => ∃ v', e = .returned v' ∧ NewI w w' v' (givesK D.mine n) ∧ Chg (fun _ => False) w w' := by
  have HF := Lib.hid h
  obtain ⟨a, c, rfl, _, _, _⟩ := ownsRow_slice h.mine
  obtain ⟨N, hN⟩ : ∃ N, N = D.mine.length := ⟨_, rfl⟩
  rw [← hN] at hl HF
  have HN := Lib.hid hN
  clear h hN
  go_enter Try.func38, Try.ntmps38
  go_wp2_with fail
  go_loopg [5, 6] N (fun gm lv iv wr => ∃ (k : Nat) (zs : List Int), k ≤ N ∧ (k = 0 ∨ (k : Int) ≤ n) ∧ gm = N - k ∧ iv = .int .i64 k ∧ zs = (D.mine.take k).foldl (fun l x => insK x l) [] ∧ zs.length = k ∧ NewI w wr lv zs ∧ Chg (fun _ => False) w wr)
  case atStart => exact ⟨0, [], by omega, .inl rfl, rfl, rfl, rfl, rfl, NewI.nil _ _, Chg.refl _ _⟩
  case round =>
    obtain ⟨k, zs, hk, hkn, hg, rfl, hz, hzl, hNw, hch⟩ := hrel
    have Hg := Lib.hid hg
    have HNw := Lib.hid hNw
    have HC := Lib.hid hch
    have HZ := Lib.hid hz
    have HZL := Lib.hid hzl
    have HW := Lib.hid (HF.out.chg0 hch)
    have c1 := HW.out.cells.2.1
    obtain ⟨la, lc, rfl⟩ := hNw.slice
    rw [hzl] at HNw
    clear hg hNw hz
    by_cases hlt : k < N ∧ (k : Int) < n
    · obtain ⟨hlt, hltn⟩ := hlt
      obtain ⟨x, hx⟩ : ∃ x, D.mine[k]? = some x := ⟨_, List.getElem?_eq_getElem (by rw [← HN.out]; exact hlt)⟩
      obtain ⟨gm, e, cx⟩ := pins_cell (n := N) (by have := HW.out.mine; rw [← HN.out] at this; exact this) hx
      cases e
      have HX := Lib.hid hx
      have hki : (k : Int) < (N : Int) := by omega
      have hk0 : (0 : Int) ≤ (k : Int) := by omega
      have HStep : Hid ((D.mine.take (k + 1)).foldl (fun l x => insK x l) [] = insK x zs) := Lib.hid (by rw [take_snoc hx, List.foldl_append, ← HZ.out]; rfl)
      have HR1 : Hid (wr.ownsRow 0 3 1 (.slice la k lc) k (zs.map (Value.int .i64))) := Lib.hid (by have := HNw.out.1; rw [hzl] at this; exact this)
      rw [hzl]
      have hnil := row_nil HR1.out
      clear hx hch hkn hzl
      go_wp2_with fail
      go_loopg [7] k (fun gm jv wq => ∃ j : Nat, j ≤ k ∧ gm = k - j ∧ jv = .int .i64 j ∧ (∀ y ∈ zs.take j, y < x) ∧ Chg (fun _ => False) wr wq)
      case atStart => exact ⟨0, by omega, rfl, rfl, by simp, Chg.refl _ _⟩
      case round =>
        obtain ⟨j, hj, hg2, rfl, hall, hch2⟩ := hrel
        have Hg2 := Lib.hid hg2
        have HAll := Lib.hid hall
        have HC2 := Lib.hid hch2
        have HW2 := Lib.hid (HW.out.chg0 hch2)
        have d1 := HW2.out.cells.2.1
        obtain ⟨_, e, dx⟩ := pins_cell (n := N) (by have := HW2.out.mine; rw [← HN.out] at this; exact this) HX.out
        cases e
        have HR2 := Lib.hid (ownsRow_chg HR1.out hch2 (fun _ _ f => f))
        clear hg2 hall hch2 c1 cx
        have HR1' := Lib.hid hnil
        rcases hnil with ⟨rfl, hk00, rfl⟩ | ⟨gl, rfl, hklc⟩
        · subst hk00
          obtain rfl : j = 0 := by omega
          obtain rfl : zs = [] := List.eq_nil_of_length_eq_zero HZL.out
          obtain ⟨i1, hi', _, _, _⟩ := info_parts info3
          clear HR1'
          have HCW := Lib.hid (HC.out.trans HC2.out (fun _ f => f.elim))
          go_wp2_with fail
          go_quiet (fail)
          have HB : Hid (Chg (fun _ => False) wr ((wr.drewN nq).alloc (.cells #[] 3))) := Lib.hid (((Chg.refl (fun _ => False) wr).drewN nq).alloc _)
          have HLit : Hid (((wr.drewN nq).alloc (.cells #[] 3)).ownsRow 0 3 1 (.slice (some ⟨wr.heap.size, 0, none⟩) 0 0) 0 []) := Lib.hid (World.ownsRow_lit (base := 0) (e := 3) (size := 1) (wr.drewN nq) #[] 0 (Nat.zero_le _) (Nat.zero_le _) rfl)
          go_wp2_with (first
            | (at_builtin; refine wpList_append_own_none rfl _ _ 22 rfl 0 3 i1 1 Try.underlying22 hi' (.slice (some ⟨wr.heap.size, 0, none⟩) 0 0) 0 [] rfl HLit.out rfl ?_; obtain ⟨w0, hw0⟩ : ∃ w0, w0 = (wr.drewN nq).alloc (.cells #[] 3) := ⟨_, rfl⟩; rw [← hw0]; have HLit0 : Hid (w0.ownsRow 0 3 1 (.slice (some ⟨wr.heap.size, 0, none⟩) 0 0) 0 []) := Lib.hid (by rw [hw0]; exact HLit.out); have HB0 : Hid (Chg (fun _ => False) wr w0) := Lib.hid (by rw [hw0]; exact HB.out); have e1 := (HW2.out.chg0 HB0.out).cells.2.1; have ex := HB0.out.get_cell dx (fun f => f); clear hw0)
            | (at_builtin; refine app_int rfl _ _ rfl (.slice (some ⟨wr.heap.size, 0, none⟩) 0 0) [] rfl HLit0.out x rfl (by simp) ?_; intro g2 k2 w2 hr2 hc2 hat2; have HR2' : Hid (w2.ownsRow 0 3 1 (.slice (some ⟨g2, 0, none⟩) 1 k2) 1 ([x].map (Value.int .i64))) := Lib.hid hr2; have HG2 : Hid (wr.heap.size ≤ g2) := Lib.hid (hat2.elim (fun e => Nat.le_of_eq (own_some e)) (fun e => Nat.le_trans HB0.out.size (Nat.le_of_lt e))); have HC2' : Hid (Chg (fun _ => False) w w2) := Lib.hid (HCW.out.trans (HB0.out.news hc2 (fun k e => Nat.le_of_eq (own_some e))) (fun _ f => f.elim)); clear hr2 hc2 hat2)
            | (at_builtin; refine wpList_append_own_none rfl _ _ 22 rfl 0 3 i1 1 Try.underlying22 hi' (.slice (some ⟨g2, 0, none⟩) 1 k2) 1 ([x].map (Value.int .i64)) rfl HR2'.out rfl ?_)
            | fail)
          go_roundg (N - (0 + 1))
          case measure => have := Hg.out; omega
          case rel => exact ⟨0 + 1, [x], by omega, .inr (by omega), rfl, by go_num, HStep.out.symm, rfl, ⟨HR2'.out, fun g e => by rw [← own_some e]; exact Nat.le_trans HCW.out.size HG2.out⟩, HC2'.out⟩
        · by_cases hjk : j < k
          · obtain ⟨y, hy⟩ : ∃ y, zs[j]? = some y := ⟨_, List.getElem?_eq_getElem (by rw [HZL.out]; exact hjk)⟩
            obtain ⟨_, e, dy⟩ := pins_cell HR2.out hy
            cases e
            have HY := Lib.hid hy
            have hji : (j : Int) < (k : Int) := by omega
            have hj0 : (0 : Int) ≤ (j : Int) := by omega
            have b1 : decide (j < k) = true := decide_eq_true hjk
            clear hy HR1'
            by_cases hyx : y < x
            · have HA2 : Hid (∀ z ∈ zs.take (j + 1), z < x) := Lib.hid (fun z hz => by
                rw [take_snoc HY.out, List.mem_append] at hz
                rcases hz with e | e
                · exact HAll.out z e
                · simp at e; subst e; exact hyx)
              have b2 : decide (y < x) = true := decide_eq_true hyx
              go_wp2_with fail
              go_quiet (fail)
              go_wp2_with fail
              go_roundg (k - (j + 1))
              case measure => have := Hg2.out; omega
              case rel => exact ⟨j + 1, by omega, rfl, by go_num, HA2.out, HC2.out.drewN _⟩
            · have HIns := Lib.hid (ins_split HAll.out (fun z hz => by rw [HY.out] at hz; cases hz; exact hyx))
              have b2 : decide (y < x) = false := decide_eq_false hyx
              clear hyx
              go_wp2_with fail
              go_quiet (fail)
              have HL1 : Hid ((zs.take j).length = j) := Lib.hid (by rw [List.length_take, HZL.out]; omega)
              have HL2 : Hid ((zs.drop j).length = k - j) := Lib.hid (by rw [List.length_drop, HZL.out])
              have HI3 : Hid (zs.take j ++ [x] ++ zs.drop j = insK x zs) := Lib.hid (by rw [HIns.out]; simp)
              have HIL : Hid ((insK x zs).length = k + 1) := Lib.hid (by rw [(insK_perm x zs).length_eq, List.length_cons, HZL.out])
              have HCW := Lib.hid (HC.out.trans HC2.out (fun _ f => f.elim))
              have HCl : Hid (∀ (i : Nat) (y : Int), zs[i]? = some y → (wr.drewN nq).cell? ((⟨gl, 0, none⟩ : Addr).add i) = some (.int .i64 y)) := Lib.hid (fun i y hy => by
                obtain ⟨_, e, cy⟩ := pins_cell HR2.out hy
                cases e
                rw [addr_add, Nat.zero_add]
                exact ((Chg.refl (fun _ => False) wr).drewN nq).get_cell cy (fun f => f))
              have hjl : (j : Int) ≤ (lc : Int) := by omega
              have hjk2 : (j : Int) ≤ (k : Int) := by omega
              have hcap : ¬ j = lc := by omega
              go_wp2_with (first
                | (at_builtin; refine app_lit rfl _ _ rfl rfl ⟨gl, 0, none⟩ (zs.take j) j lc rfl HL1.out (fun i y hy => HCl.out i y (take_get hy)) (by omega) ?_; intro a1 k1 w1 hr1 hc1 hg1; have HR1' := Lib.hid hr1; have HC1 : Hid (Chg (fun _ => False) wr w1) := Lib.hid (((Chg.refl (fun _ => False) wr).drewN nq).trans hc1 (fun _ f => f.elim)); have HG1 : Hid (∀ g, (Value.slice a1 j k1).ownBlock = some g → w.heap.size ≤ g) := Lib.hid (fun g e => Nat.le_trans HCW.out.size (hg1 g e)); have HG1w : Hid (∀ g, (Value.slice a1 j k1).ownBlock = some g → wr.heap.size ≤ g) := Lib.hid (fun g e => hg1 g e); have HW1 := Lib.hid (HW2.out.chg0 HC1.out); have e1 := HW1.out.cells.2.1; have ex := HC1.out.get_cell dx (fun f => f); clear hr1 hc1 hg1)
                | (at_builtin; refine app_int rfl _ _ rfl (.slice a1 j k1) (zs.take j) rfl (by rw [HL1.out]; exact HR1'.out) x rfl (by rw [HL1.out]; omega) ?_; intro g2 k2 w2 hr2 hc2 hat2; rw [HL1.out] at hr2 ⊢; have HR2' := Lib.hid hr2; have HC2' : Hid (Chg (fun _ => False) w w2) := Lib.hid ((HCW.out.trans HC1.out (fun _ f => f.elim)).news hc2 HG1.out); have HG2 : Hid (w.heap.size ≤ g2) := Lib.hid (hat2.elim (HG1.out g2) (fun e => by have := HCW.out.size; have := HC1.out.size; omega)); have HC12 := Lib.hid (HC1.out.mono (S' := fun k => (Value.slice a1 j k1).ownBlock = some k) (fun _ f => f.elim)); have HC12b := Lib.hid (HC12.out.trans hc2 (fun _ e => .inl e)); clear hr2 hc2 hat2)
                | (at_builtin; refine app_ints rfl _ _ rfl (.slice (some ⟨g2, 0, none⟩) (j + 1) k2) (zs.take j ++ [x]) rfl (by rw [List.length_append, HL1.out]; exact HR2'.out) _ (zs.drop j) _ _ rfl (HL2.out.trans (by first | rfl | omega)) (fun i y hy => by rw [List.getElem?_drop] at hy; obtain ⟨_, e, cy⟩ := pins_cell HR2.out hy; cases e; rw [addr_add]; exact HC12b.out.get_cell cy (fun e => Nat.lt_irrefl _ (Nat.lt_of_lt_of_le (ownsRow_lt HR2.out (g := gl) rfl) (HG1w.out gl e)))) (by rw [List.length_append, HL1.out, List.length_singleton]; omega) ?_; intro v3 w3 hr3 hc3 hg3; rw [HI3.out] at hr3; obtain ⟨a3, k3, rfl, _⟩ := ownsRow_slice hr3; have HR3 := Lib.hid hr3; have HC3 := Lib.hid (HC2'.out.news hc3 (fun k e => by rw [← own_some e]; exact HG2.out)); have HG3 : Hid (∀ g, (Value.slice a3 (insK x zs).length k3).ownBlock = some g → w.heap.size ≤ g) := Lib.hid (fun g e => (hg3 g e).elim (fun e => by rw [← own_some e]; exact HG2.out) (fun e => Nat.le_trans HC2'.out.size e)); clear hr3 hc3 hg3)
                | fail)
              go_roundg (N - (k + 1))
              case measure => have := Hg.out; omega
              case rel => exact ⟨k + 1, insK x zs, by omega, .inr (by omega), rfl, by go_num, HStep.out.symm, HIL.out, ⟨HR3.out, HG3.out⟩, HC3.out⟩
          · have HIns := Lib.hid (ins_split (j := j) HAll.out (fun z hz => by have := (List.getElem?_eq_some_iff.1 hz).1; rw [HZL.out] at this; omega))
            have b1 : decide (j < k) = false := decide_eq_false hjk
            have hj0 : (0 : Int) ≤ (j : Int) := by omega
            clear HR1'
            go_wp2_with fail
            go_quiet (fail)
            have HL1 : Hid ((zs.take j).length = j) := Lib.hid (by rw [List.length_take, HZL.out]; omega)
            have HL2 : Hid ((zs.drop j).length = k - j) := Lib.hid (by rw [List.length_drop, HZL.out])
            have HI3 : Hid (zs.take j ++ [x] ++ zs.drop j = insK x zs) := Lib.hid (by rw [HIns.out]; simp)
            have HIL : Hid ((insK x zs).length = k + 1) := Lib.hid (by rw [(insK_perm x zs).length_eq, List.length_cons, HZL.out])
            have HCW := Lib.hid (HC.out.trans HC2.out (fun _ f => f.elim))
            have HCl : Hid (∀ (i : Nat) (y : Int), zs[i]? = some y → (wr.drewN nq).cell? ((⟨gl, 0, none⟩ : Addr).add i) = some (.int .i64 y)) := Lib.hid (fun i y hy => by
              obtain ⟨_, e, cy⟩ := pins_cell HR2.out hy
              cases e
              rw [addr_add, Nat.zero_add]
              exact ((Chg.refl (fun _ => False) wr).drewN nq).get_cell cy (fun f => f))
            have hjl : (j : Int) ≤ (lc : Int) := by omega
            have hjk2 : (j : Int) ≤ (k : Int) := by omega
            by_cases hcap : j = lc
            · subst hcap
              go_wp2_with (first
                | (at_builtin; refine app_lit rfl _ _ rfl rfl ⟨gl, 0, none⟩ (zs.take j) j j rfl HL1.out (fun i y hy => HCl.out i y (take_get hy)) (by omega) ?_; intro a1 k1 w1 hr1 hc1 hg1; have HR1' := Lib.hid hr1; have HC1 : Hid (Chg (fun _ => False) wr w1) := Lib.hid (((Chg.refl (fun _ => False) wr).drewN nq).trans hc1 (fun _ f => f.elim)); have HG1 : Hid (∀ g, (Value.slice a1 j k1).ownBlock = some g → w.heap.size ≤ g) := Lib.hid (fun g e => Nat.le_trans HCW.out.size (hg1 g e)); have HG1w : Hid (∀ g, (Value.slice a1 j k1).ownBlock = some g → wr.heap.size ≤ g) := Lib.hid (fun g e => hg1 g e); have HW1 := Lib.hid (HW2.out.chg0 HC1.out); have e1 := HW1.out.cells.2.1; have ex := HC1.out.get_cell dx (fun f => f); clear hr1 hc1 hg1)
                | (at_builtin; refine app_int rfl _ _ rfl (.slice a1 j k1) (zs.take j) rfl (by rw [HL1.out]; exact HR1'.out) x rfl (by rw [HL1.out]; omega) ?_; intro g2 k2 w2 hr2 hc2 hat2; rw [HL1.out] at hr2 ⊢; have HR2' := Lib.hid hr2; have HC2' : Hid (Chg (fun _ => False) w w2) := Lib.hid ((HCW.out.trans HC1.out (fun _ f => f.elim)).news hc2 HG1.out); have HG2 : Hid (w.heap.size ≤ g2) := Lib.hid (hat2.elim (HG1.out g2) (fun e => by have := HCW.out.size; have := HC1.out.size; omega)); have HC12 := Lib.hid (HC1.out.mono (S' := fun k => (Value.slice a1 j k1).ownBlock = some k) (fun _ f => f.elim)); have HC12b := Lib.hid (HC12.out.trans hc2 (fun _ e => .inl e)); clear hr2 hc2 hat2)
                | (at_builtin; refine app_ints rfl _ _ rfl (.slice (some ⟨g2, 0, none⟩) (j + 1) k2) (zs.take j ++ [x]) rfl (by rw [List.length_append, HL1.out]; exact HR2'.out) _ (zs.drop j) _ _ rfl (HL2.out.trans (by first | rfl | omega)) (fun i y hy => by have h1 := (List.getElem?_eq_some_iff.1 hy).1; rw [HL2.out] at h1; omega) (by rw [List.length_append, HL1.out, List.length_singleton]; omega) ?_; intro v3 w3 hr3 hc3 hg3; rw [HI3.out] at hr3; obtain ⟨a3, k3, rfl, _⟩ := ownsRow_slice hr3; have HR3 := Lib.hid hr3; have HC3 := Lib.hid (HC2'.out.news hc3 (fun k e => by rw [← own_some e]; exact HG2.out)); have HG3 : Hid (∀ g, (Value.slice a3 (insK x zs).length k3).ownBlock = some g → w.heap.size ≤ g) := Lib.hid (fun g e => (hg3 g e).elim (fun e => by rw [← own_some e]; exact HG2.out) (fun e => Nat.le_trans HC2'.out.size e)); clear hr3 hc3 hg3)
                | fail)
              go_roundg (N - (k + 1))
              case measure => have := Hg.out; omega
              case rel => exact ⟨k + 1, insK x zs, by omega, .inr (by omega), rfl, by go_num, HStep.out.symm, HIL.out, ⟨HR3.out, HG3.out⟩, HC3.out⟩
            · go_wp2_with (first
                | (at_builtin; refine app_lit rfl _ _ rfl rfl ⟨gl, 0, none⟩ (zs.take j) j lc rfl HL1.out (fun i y hy => HCl.out i y (take_get hy)) (by omega) ?_; intro a1 k1 w1 hr1 hc1 hg1; have HR1' := Lib.hid hr1; have HC1 : Hid (Chg (fun _ => False) wr w1) := Lib.hid (((Chg.refl (fun _ => False) wr).drewN nq).trans hc1 (fun _ f => f.elim)); have HG1 : Hid (∀ g, (Value.slice a1 j k1).ownBlock = some g → w.heap.size ≤ g) := Lib.hid (fun g e => Nat.le_trans HCW.out.size (hg1 g e)); have HG1w : Hid (∀ g, (Value.slice a1 j k1).ownBlock = some g → wr.heap.size ≤ g) := Lib.hid (fun g e => hg1 g e); have HW1 := Lib.hid (HW2.out.chg0 HC1.out); have e1 := HW1.out.cells.2.1; have ex := HC1.out.get_cell dx (fun f => f); clear hr1 hc1 hg1)
                | (at_builtin; refine app_int rfl _ _ rfl (.slice a1 j k1) (zs.take j) rfl (by rw [HL1.out]; exact HR1'.out) x rfl (by rw [HL1.out]; omega) ?_; intro g2 k2 w2 hr2 hc2 hat2; rw [HL1.out] at hr2 ⊢; have HR2' := Lib.hid hr2; have HC2' : Hid (Chg (fun _ => False) w w2) := Lib.hid ((HCW.out.trans HC1.out (fun _ f => f.elim)).news hc2 HG1.out); have HG2 : Hid (w.heap.size ≤ g2) := Lib.hid (hat2.elim (HG1.out g2) (fun e => by have := HCW.out.size; have := HC1.out.size; omega)); have HC12 := Lib.hid (HC1.out.mono (S' := fun k => (Value.slice a1 j k1).ownBlock = some k) (fun _ f => f.elim)); have HC12b := Lib.hid (HC12.out.trans hc2 (fun _ e => .inl e)); clear hr2 hc2 hat2)
                | (at_builtin; refine app_ints rfl _ _ rfl (.slice (some ⟨g2, 0, none⟩) (j + 1) k2) (zs.take j ++ [x]) rfl (by rw [List.length_append, HL1.out]; exact HR2'.out) _ (zs.drop j) _ _ rfl (HL2.out.trans (by first | rfl | omega)) (fun i y hy => by rw [List.getElem?_drop] at hy; obtain ⟨_, e, cy⟩ := pins_cell HR2.out hy; cases e; rw [addr_add]; exact HC12b.out.get_cell cy (fun e => Nat.lt_irrefl _ (Nat.lt_of_lt_of_le (ownsRow_lt HR2.out (g := gl) rfl) (HG1w.out gl e)))) (by rw [List.length_append, HL1.out, List.length_singleton]; omega) ?_; intro v3 w3 hr3 hc3 hg3; rw [HI3.out] at hr3; obtain ⟨a3, k3, rfl, _⟩ := ownsRow_slice hr3; have HR3 := Lib.hid hr3; have HC3 := Lib.hid (HC2'.out.news hc3 (fun k e => by rw [← own_some e]; exact HG2.out)); have HG3 : Hid (∀ g, (Value.slice a3 (insK x zs).length k3).ownBlock = some g → w.heap.size ≤ g) := Lib.hid (fun g e => (hg3 g e).elim (fun e => by rw [← own_some e]; exact HG2.out) (fun e => Nat.le_trans HC2'.out.size e)); clear hr3 hc3 hg3)
                | fail)
              go_roundg (N - (k + 1))
              case measure => have := Hg.out; omega
              case rel => exact ⟨k + 1, insK x zs, by omega, .inr (by omega), rfl, by go_num, HStep.out.symm, HIL.out, ⟨HR3.out, HG3.out⟩, HC3.out⟩
    · have HE : Hid (NewI w wr (.slice la k lc) (givesK D.mine n)) := Lib.hid (by
        have h1 : givesK D.mine n = zs := by
          unfold givesK
          rw [HZ.out]
          congr 1
          rcases hkn with h0 | h0
          · subst h0
            have : n.toNat = 0 ∨ N = 0 := by omega
            rcases this with e | e
            · rw [e]
            · have h9 : D.mine = [] := List.eq_nil_of_length_eq_zero (by rw [← HN.out]; exact e)
              rw [h9]; simp
          · have : n.toNat = k ∨ (N = k ∧ k ≤ n.toNat) := by omega
            rcases this with e | ⟨e, e2⟩
            · rw [e]
            · rw [List.take_of_length_le (by rw [← HN.out]; omega), List.take_of_length_le (by rw [← HN.out]; omega)]
        rw [h1]; exact HNw.out)
      by_cases h1 : k < N
      · have h2 : ¬ (k : Int) < n := fun e => hlt ⟨h1, e⟩
        have h3 : (k : Int) < (N : Int) := by omega
        clear hch hkn hlt
        rw [hzl]
        clear hzl
        go_wp2_with fail
        go_ret
        exact ⟨_, rfl, HE.out, HC.out⟩
      · have h3 : ¬ (k : Int) < (N : Int) := by omega
        clear hch hkn hlt
        rw [hzl]
        clear hzl
        go_wp2_with fail
        go_ret
        exact ⟨_, rfl, HE.out, HC.out⟩
end Go.Proofs.Ytipclbibomemjaa
