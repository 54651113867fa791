/- Walks: the program's Rot. -/
import Derived.Test.YtckioocahmbhkaaR9
import Derived.Test.YtckioocahmbhkaaC7
namespace Go.Proofs.Ytckioocahmbhkaa
open Go Go.RowKit Go.Maps Go.MuLone

/-- A disk under its lock, while the bytes of a page are turned: D, but its writes in memory are Q. -/
structure DiskG (w : World) (own : Own) (b : Nat) (D : DS) (sema lv pv : Value) (m : Nat) (Q : List (Nat × List UInt8)) : Prop where
  str : own b = some .str
  blk : w.heap[b]? = some (.cells (strCells 1 sema lv pv m D) 77 (0, 0))
  last : LastAt w own lv D.lasting
  pend : PendAt w own pv Q
  now : NowAt w own m D.wr D.pending
  f0 : 0 ≤ D.fuse
  f1 : D.fuse ≤ 9223372036854775807
  lt : ∀ k, own.blocks k → k < w.heap.size

theorem DiskF.toG {w : World} {own : Own} {b : Nat} {D : DS} {sema lv pv : Value} {m : Nat} (h : DiskF w own 1 b D sema lv pv m) : DiskG w own b D sema lv pv m D.pending :=
  ⟨h.str, h.blk, h.last, h.pend, h.now, h.f0, h.f1, h.lt⟩
theorem DiskG.chg {w w' : World} {own : Own} {b : Nat} {D : DS} {sema lv pv : Value} {m : Nat} {Q : List (Nat × List UInt8)} {S : Nat → Prop} (h : DiskG w own b D sema lv pv m Q) (hc : Chg S w w') (hs : ∀ g, own.blocks g → ¬ S g) : DiskG w' own b D sema lv pv m Q := by
  have k : ∀ g r, own g = some r → ¬ S g := fun g r e => hs g (Own.blocks_of e)
  exact ⟨h.str, hc.get h.blk (k b _ h.str), h.last.chg hc (fun g => k g _) (fun g i => k g _), h.pend.chg hc (fun g => k g _) (fun g i => k g _), h.now.chg hc (fun g => k g _) (fun g i => k g _), h.f0, h.f1,
    fun g hg => Nat.lt_of_lt_of_le (h.lt g hg) hc.size⟩

/-- The bytes of one write turned in place. -/
theorem PendAt.turn {w w' : World} {own : Own} {pv : Value} {Q : List (Nat × List UInt8)} {k g cap : Nat} {q : Nat × List UInt8} {p' : List UInt8} {S : Nat → Prop} (h : PendAt w own pv Q) (hq : Q[k]? = some q) (hpl : p'.length = q.2.length)
    (hg : ∃ pg pc, pv = .slice (some ⟨pg, 0, none⟩) Q.length pc ∧ w.cell? ⟨pg, k * 2 + 1, none⟩ = some (.slice (some ⟨g, 0, none⟩) q.2.length cap)) (ho : own g = some (.pend k)) (hc : Chg S w w') (hs1 : ∀ x, S x → x = g)
    (hp : w'.ownsRow 0 5 1 (.slice (some ⟨g, 0, none⟩) q.2.length cap) q.2.length (bVs p')) : PendAt w' own pv (Q.set k (q.1, p')) := by
  obtain ⟨vs, hvs, harr, hvp⟩ := h
  obtain ⟨pg, pc, rfl, hcell⟩ := hg
  have hk := (List.getElem?_eq_some_iff.1 hq).1
  obtain ⟨v, hv, _, _, _, _, _⟩ := hvp k q hq
  have e2 := (pcells_get Q vs k q v hq hv).2
  have e3 := harr.1.cellAt (k * 2 + 1) (by have := pcells_length Q vs hvs; omega)
  have e4 : some v = some (.slice (some ⟨g, 0, none⟩) q.2.length cap) := e2.symm.trans (e3.symm.trans hcell)
  cases e4
  have hset : pcells (Q.set k (q.1, p')) vs = pcells Q vs := by
    have := pcells_set Q vs hvs k q.1 p' (.slice (some ⟨g, 0, none⟩) q.2.length cap) hk
    rw [set_self hv] at this
    rw [← this, set_self (pcells_get Q vs k q _ hq hv).1, set_self e2]
  refine ⟨vs, by simpa using hvs, ?_, fun j q' hj => ?_⟩
  · rw [hset, List.length_set]
    exact harr.chg hc (fun x e e' => by have := hs1 x e'; subst this; rw [ho] at e; cases e)
  · by_cases e : k = j
    · subst e
      rw [List.getElem?_set_self hk] at hj
      cases hj
      exact ⟨_, hv, g, cap, by rw [hpl], ho, by rw [hpl]; exact hp⟩
    · rw [List.getElem?_set_ne e] at hj
      obtain ⟨v', hv', hb⟩ := hvp j q' hj
      exact ⟨v', hv', hb.chg hc (fun x e' e3 => by have := hs1 x e3; subst this; rw [ho] at e'; cases e'; exact e rfl)⟩

theorem lastOf_turn (qs : List (Nat × List UInt8)) (i at' : Nat) (x : UInt8) (j : Int) : lastOf (qs.map (turnQ i at' x)) j = (lastOf qs j).map (fun p => if j = i then turn p at' x else p) := by
  induction qs with
  | nil => rfl
  | cons q qs ih =>
    rw [List.map_cons, lastOf_cons, lastOf_cons, ih]
    cases h : lastOf qs j with
    | some p => rfl
    | none =>
      unfold turnQ
      by_cases e : q.1 = i
      · by_cases e2 : (q.1 : Int) = j
        · have e3 : j = i := by omega
          simp [e, e3]
        · have e3 : ¬ ((i : Int) = j) := by omega
          simp [e, e3]
      · by_cases e2 : (q.1 : Int) = j
        · have e3 : ¬ j = i := by omega
          simp [e, e2, e3]
        · simp [e, e2]

/-- What is held beside the writes is turned too. -/
theorem NowAt.turn {w w' : World} {own : Own} {m wr : Nat} {Q : List (Nat × List UInt8)} {i at' g cap : Nat} {p : List UInt8} {x : UInt8} {S : Nat → Prop} {M : DataW Value} (hm : own m = some .mp) (hM : w.ownsMap Try.prog 3 RV m wr M)
    (hq : ∀ j : Int, match lastOf Q j with
      | none => Maps.has M (.int .i64 j) = false
      | some p => Maps.has M (.int .i64 j) = true ∧ ∃ v, (∀ z, M.atKey (.int .i64 j) z = .held v) ∧ Buf w own (.now j) v p)
    (hp : lastOf Q i = some p) (ho : own g = some (.now i)) (hc : Chg S w w') (hs1 : ∀ y, S y → y = g)
    (hat : ∀ z, M.atKey (.int .i64 i) z = .held (.slice (some ⟨g, 0, none⟩) p.length cap))
    (hr : w'.ownsRow 0 5 1 (.slice (some ⟨g, 0, none⟩) p.length cap) p.length (bVs (turn p at' x))) : NowAt w' own m wr (Q.map (turnQ i at' x)) := by
  have hmg : ¬ S m := fun e => by have := hs1 m e; subst this; rw [hm] at ho; cases ho
  refine ⟨hm, M, ownsMap_chg hM hc hmg, fun j => ?_⟩
  rw [lastOf_turn]
  have hj := hq j
  cases e : lastOf Q j with
  | none => rw [e] at hj; exact hj
  | some p0 =>
    rw [e] at hj
    obtain ⟨h1, v, h2, h3⟩ := hj
    refine ⟨h1, v, h2, ?_⟩
    by_cases hji : j = i
    · subst hji
      rw [hp] at e
      cases e
      simp only [if_pos]
      have := (h2 .nil).symm.trans (hat .nil)
      cases this
      exact ⟨g, cap, by rw [turn_length], ho, by rw [turn_length]; exact hr⟩
    · simp only [if_neg hji]
      exact h3.chg hc (fun y e' e3 => by have := hs1 y e3; subst this; rw [ho] at e'; cases e'; exact hji rfl)

theorem NowAt.same {w : World} {own : Own} {m wr : Nat} {Q : List (Nat × List UInt8)} {i at' : Nat} {x : UInt8} (h : NowAt w own m wr Q) (hp : lastOf Q i = none) : NowAt w own m wr (Q.map (turnQ i at' x)) := by
  obtain ⟨hm, M, hM, hq⟩ := h
  refine ⟨hm, M, hM, fun j => ?_⟩
  rw [lastOf_turn]
  have hj := hq j
  cases e : lastOf Q j with
  | none => rw [e] at hj; exact hj
  | some p0 =>
    rw [e] at hj
    have hji : ¬ j = i := fun e2 => by subst e2; rw [hp] at e; cases e
    simp only [if_neg hji]
    exact hj

set_option maxRecDepth 100000 in
set_option maxHeartbeats 4000000 in
theorem pr_loop {Q0 : Exit → Act → World → Prop} {s0 s4 s5 s6 s7 s8 s9 s10 s11 s12 s13 s14 s15 s16 s17 s18 s19 s20 s21 s22 s23 s24 s25 s26 s27 s28 s29 s30 s31 s32 s33 s34 s35 s36 s37 s38 s39 s40 s41 s42 s43 s44 s45 s46 s47 s48 s49 s50 s51 s52 s53 s54 s55 s56 s57 s58 s59 s60 s61 s65 s66 s67 s68 s69 s70 s71 s72 s73 s74 s75 s76 s77 s78 s79 s80 s81 s82 s83 s84 s85 s86 s87 s88 s89 s90 s91 s92 s93 s94 s95 s96 s97 s98 s99 : Value} {dfr : List Deferred} (w : World) (own : Own) (b : Nat) (D : DS) (sema lv : Value) (pa : Option Addr) (pc m : Nat) (hG : DiskG w own b D sema lv (.slice pa D.pending.length pc) m D.pending) (hq : ∀ q ∈ D.pending, q.2.length = 4096) (hqn : ∀ q ∈ D.pending, q.1 ≤ 1000000) (hn : D.pending.length ≤ 1000000) (i at' : Nat) (x : Int) (hi : i ≤ 1000000) (ha : at' < 4096) (hx1 : 1 ≤ x) (hx2 : x ≤ 255)
    (hexit : ∀ ⦃u10 u64 u65 u66 u67 u68 u69 u70 u71 u72 u73 u74 u75 u76 u77 u78 u79 u80 u81 : Value⦄ (w' : World), (DiskG w' own b D sema lv (.slice pa D.pending.length pc) m (D.pending.map (turnQ i at' (UInt8.ofNat x.toNat))) ∧ Chg own.blocks w w') → Q0 .normal ⟨List.toArray (s0 :: .int .i64 i :: .int .i64 at' :: .int .i64 x :: s4 :: s5 :: s6 :: s7 :: s8 :: s9 :: u10 :: s11 :: s12 :: s13 :: s14 :: s15 :: s16 :: s17 :: s18 :: s19 :: s20 :: s21 :: s22 :: s23 :: s24 :: s25 :: s26 :: s27 :: s28 :: s29 :: s30 :: s31 :: s32 :: s33 :: s34 :: s35 :: s36 :: s37 :: s38 :: s39 :: s40 :: s41 :: s42 :: s43 :: s44 :: s45 :: s46 :: s47 :: s48 :: s49 :: s50 :: s51 :: s52 :: s53 :: s54 :: s55 :: s56 :: s57 :: s58 :: s59 :: s60 :: s61 :: .slice pa D.pending.length pc :: .int .i64 D.pending.length :: u64 :: u65 :: u66 :: u67 :: u68 :: u69 :: u70 :: u71 :: u72 :: u73 :: u74 :: u75 :: u76 :: u77 :: u78 :: u79 :: u80 :: u81 :: s82 :: s83 :: s84 :: s85 :: s86 :: s87 :: s88 :: s89 :: s90 :: s91 :: s92 :: s93 :: s94 :: s95 :: s96 :: s97 :: s98 :: s99 :: []), dfr⟩ w') :
    Code.wp Try.prog (blk 0 Try.f46) Q0 ⟨List.toArray (s0 :: .int .i64 i :: .int .i64 at' :: .int .i64 x :: s4 :: s5 :: s6 :: s7 :: s8 :: s9 :: s10 :: s11 :: s12 :: s13 :: s14 :: s15 :: s16 :: s17 :: s18 :: s19 :: s20 :: s21 :: s22 :: s23 :: s24 :: s25 :: s26 :: s27 :: s28 :: s29 :: s30 :: s31 :: s32 :: s33 :: s34 :: s35 :: s36 :: s37 :: s38 :: s39 :: s40 :: s41 :: s42 :: s43 :: s44 :: s45 :: s46 :: s47 :: s48 :: s49 :: s50 :: s51 :: s52 :: s53 :: s54 :: s55 :: s56 :: s57 :: s58 :: s59 :: s60 :: s61 :: .slice pa D.pending.length pc :: .int .i64 D.pending.length :: .int .i64 0 :: s65 :: s66 :: s67 :: s68 :: s69 :: s70 :: s71 :: s72 :: s73 :: s74 :: s75 :: s76 :: s77 :: s78 :: s79 :: s80 :: s81 :: s82 :: s83 :: s84 :: s85 :: s86 :: s87 :: s88 :: s89 :: s90 :: s91 :: s92 :: s93 :: s94 :: s95 :: s96 :: s97 :: s98 :: s99 :: []), dfr⟩ w := by
  have HX := Lib.hid hexit
  have HF := Lib.hid hG
  have Hq := Lib.hid hq
  have Hqn := Lib.hid hqn
  obtain ⟨x', hx'⟩ : ∃ x', x' = UInt8.ofNat x.toNat := ⟨_, rfl⟩
  have Hx' := Lib.hid hx'
  clear hexit hG hq hqn hx'
  conv => arg 2; whnf
  go_wp2_with fail
  go_loopg [64] D.pending.length (fun gm iv wr => ∃ k : Nat, k ≤ D.pending.length ∧ gm = D.pending.length - k ∧ iv = .int .i64 k ∧ DiskG wr own b D sema lv (.slice pa D.pending.length pc) m (turnK D.pending i at' x' k) ∧ Chg own.blocks w wr)
  case atStart => exact ⟨0, by omega, rfl, rfl, by rw [turnK_zero]; exact HF.out, Chg.refl _ _⟩
  case round =>
    obtain ⟨k, hk, hg, rfl, h1, hchg⟩ := hrel
    have Hg := Lib.hid hg
    have H1 := Lib.hid h1
    have Hchg := Lib.hid hchg
    clear hg hchg
    by_cases hlt : k < D.pending.length
    · obtain ⟨q, hq⟩ : ∃ q, D.pending[k]? = some q := ⟨_, List.getElem?_eq_getElem hlt⟩
      have hq2 := turnK_get D.pending i at' x' k q hq
      have htl := turnK_length D.pending i at' x' k
      obtain ⟨pg, pc', gv, cv, e, d1, d2, ho, hr⟩ := h1.pend.at hq2
      rw [htl] at e
      cases e
      have hqm := List.mem_of_getElem? hq
      have hql : q.2.length = 4096 := Hq.out q hqm
      have hq1 := Hqn.out q hqm
      rw [hql] at d2 hr
      have hk0 : (0 : Int) ≤ (k : Int) := Int.natCast_nonneg _
      have hk1 : (k : Int) < (D.pending.length : Int) := by omega
      have Hsu := Lib.hid (turnK_succ D.pending i at' x' k q hq)
      have Hq2 := Lib.hid hq2
      have Hql := Lib.hid hql
      have Hr := Lib.hid hr
      have Ho := Lib.hid ho
      have hgvl : gv < wr.heap.size := row_lt hr
      have D2 := Lib.hid d2
      have Htl := Lib.hid htl
      clear h1 hq hqm hql hr ho hq2 htl
      by_cases hqi : q.1 = i
      · have hb1 : ((q.1 : Int) == (i : Int)) = true := by rw [beq_iff_eq]; omega
        obtain ⟨y, hy⟩ : ∃ y, q.2[at']? = some y := ⟨_, List.getElem?_eq_getElem (by rw [Hql.out]; exact ha)⟩
        have k1 : wr.cell? ⟨gv, at', none⟩ = some (.int .u8 y.toNat) := by
          rw [Hr.out.cellAt at' (by omega)]; simp [bVs, bV, hy]
        have k2 : wr.frozen? ⟨gv, at', none⟩ = false := Hr.out.frozenAt at'
        have hy1 : (0 : Int) ≤ (y.toNat : Int) := Int.natCast_nonneg _
        have hy2 : (y.toNat : Int) ≤ 255 := by have := y.toNat_lt; omega
        have ha0 : (0 : Int) ≤ (at' : Int) := Int.natCast_nonneg _
        have ha1 : (at' : Int) < 4096 := by omega
        have Hqi := Lib.hid hqi
        have Hy := Lib.hid hy
        clear hqi hy
        go_wp2_with fail
        obtain ⟨w3, hw3⟩ : ∃ w3, w3 = wr.setCell ⟨gv, at', none⟩ (.int .u8 (bits .xor .u8 (y.toNat : Int) x)) := ⟨_, rfl⟩
        rw [← hw3]
        have hc3 : Chg (fun z => z = gv) wr w3 := by rw [hw3]; exact chg1 _
        have hr3 : w3.ownsRow 0 5 1 (.slice (some ⟨gv, 0, none⟩) 4096 cv) 4096 (bVs (turn q.2 at' x')) := by rw [hw3, Hx'.out]; exact turn_row Hr.out Hql.out Hy.out hx1 hx2
        have hset : turnK D.pending i at' x' (k + 1) = (turnK D.pending i at' x' k).set k (q.1, turn q.2 at' x') := by rw [Hsu.out]; unfold turnQ; rw [if_pos Hqi.out]
        have hbl := Own.blocks_of Ho.out
        have hne : ∀ r, r ≠ .pend k → ∀ z, own z = some r → ¬ z = gv := fun r hr z e e2 => by subst e2; rw [Ho.out] at e; cases e; exact hr rfl
        have hG3 : DiskG w3 own b D sema lv (.slice (some ⟨pg, 0, none⟩) D.pending.length pc) m (turnK D.pending i at' x' (k + 1)) := by
          have h1 := H1.out
          refine ⟨h1.str, hc3.get h1.blk (hne _ (by simp) b h1.str), h1.last.chg hc3 (fun z => hne _ (by simp) z) (fun z i => hne _ (by simp) z), ?_, h1.now.chg hc3 (fun z => hne _ (by simp) z) (fun z i => hne _ (by simp) z), h1.f0, h1.f1, fun z hz => Nat.lt_of_lt_of_le (h1.lt z hz) hc3.size⟩
          rw [hset]
          exact PendAt.turn (S := fun z => z = gv) h1.pend Hq2.out (by rw [turn_length]) ⟨pg, pc, by rw [Htl.out], by rw [Hql.out]; exact D2.out⟩ Ho.out hc3 (fun z e => e) (by rw [Hql.out]; exact hr3)
        go_roundg (D.pending.length - (k + 1))
        case measure => have := Hg.out; omega
        case rel => exact ⟨k + 1, by omega, rfl, by go_num, hG3.chg ((Chg.refl (fun _ => False) w3).alloc _) (fun _ _ f => f), (Hchg.out.trans hc3 (fun z e => .inl (by have e2 : z = gv := e; subst e2; exact hbl))).alloc _⟩
      · have hb1 : ((q.1 : Int) == (i : Int)) = false := by rw [beq_eq_false_iff_ne]; omega
        have hset : turnK D.pending i at' x' (k + 1) = turnK D.pending i at' x' k := by
          rw [Hsu.out]; unfold turnQ; rw [if_neg hqi]
          exact set_self Hq2.out
        have Hset := Lib.hid hset
        clear hset hqi
        go_wp2_with fail
        go_roundg (D.pending.length - (k + 1))
        case measure => have := Hg.out; omega
        case rel => exact ⟨k + 1, by omega, rfl, by go_num, by rw [Hset.out]; exact H1.out.chg ((Chg.refl (fun _ => False) wr).alloc _) (fun _ _ f => f), Hchg.out.alloc _⟩
    · obtain rfl : k = D.pending.length := by omega
      have HT := Lib.hid (turnK_all D.pending i at' x')
      clear h1
      go_wp2_with fail
      refine HX.out _ ⟨?_, Hchg.out⟩
      have := H1.out
      rw [HT.out, Hx'.out] at this
      exact this

/-- The page that lasts turned in place. -/
theorem page_turned {w : World} {own : Own} {b i at' g cap : Nat} {D : DS} {sema lv pv : Value} {m : Nat} {p : List UInt8} {y : UInt8} {x : Int} (h : DiskF w own 1 b D sema lv pv m) (hp : D.lasting[i]? = some p) (hpl : p.length = 4096) (hy : p[at']? = some y) (hx1 : 1 ≤ x) (hx2 : x ≤ 255)
    (hlp : ∃ lg lc, lv = .slice (some ⟨lg, 0, none⟩) D.lasting.length lc ∧ w.cell? ⟨lg, i, none⟩ = some (.slice (some ⟨g, 0, none⟩) 4096 cap)) (ho : own g = some (.page i)) (hr : w.ownsRow 0 5 1 (.slice (some ⟨g, 0, none⟩) 4096 cap) 4096 (bVs p)) :
    DiskF (w.setCell ⟨g, at', none⟩ (.int .u8 (bits .xor .u8 (y.toNat : Int) x))) own 1 b (D.more (D.lasting.set i (turn p at' (UInt8.ofNat x.toNat)))) sema lv pv m := by
  obtain ⟨ls, hls, harr, hlpp⟩ := h.last
  obtain ⟨lg, lc, rfl, hcell⟩ := hlp
  have hi := (List.getElem?_eq_some_iff.1 hp).1
  obtain ⟨v, hv, _, _, _, _, _⟩ := hlpp i p hp
  have e3 := harr.1.cellAt i (by omega)
  have e4 : some v = some (.slice (some ⟨g, 0, none⟩) 4096 cap) := hv.symm.trans (e3.symm.trans hcell)
  cases e4
  exact h.setPage (p' := turn p at' (UInt8.ofNat x.toNat)) hls harr hlpp hp (turn_length _ _ _) (by rw [hpl]; exact hv) ho (chg1 _) (by rw [hpl]; exact turn_row hr hpl hy hx1 hx2)

set_option maxRecDepth 100000 in
set_option maxHeartbeats 4000000 in
theorem prot_go (w : World) (own : Own) (b : Nat) (D : DS) (h : DiskAt w own 0 b D) (hok : D.ok) (hn : D.pending.length ≤ 1000000) (i at' : Nat) (x : Int) (hi : i < D.lasting.length) (ha : at' < 4096) (hx1 : 1 ≤ x) (hx2 : x ≤ 255) :
    Calls Try.prog 46 #[.pointer (some ⟨b, 0, none⟩), .int .i64 i, .int .i64 at', .int .i64 x] w fun e w' => e = .returned (.int .i64 0) ∧ DiskAt w' own 0 b (D.rotted i at' (UInt8.ofNat x.toNat)) ∧ Step w own w' own := by
  have h1 := h.lock 0 1
  have Hok := Lib.hid hok
  obtain ⟨hs, hfz⟩ := h.lockCell
  have hstr := h.str
  have Hstr := Lib.hid hstr
  obtain ⟨sema, lv, pv, m, hF⟩ := h1
  obtain ⟨p, hp⟩ : ∃ p, D.lasting[i]? = some p := ⟨_, List.getElem?_eq_getElem hi⟩
  have hpl : p.length = 4096 := hok.page p (List.mem_of_getElem? hp)
  obtain ⟨c3, c4, c5⟩ := hF.fields
  obtain ⟨lg, lc, gv, cv, rfl, cl, hrole, hbuf⟩ := hF.last.at hp
  obtain ⟨pa, pc, rfl⟩ := hF.pend.form
  rw [hpl] at cl hbuf
  obtain ⟨y, hy⟩ : ∃ y, p[at']? = some y := ⟨_, List.getElem?_eq_getElem (by rw [hpl]; exact ha)⟩
  have k1 : (w.setCell ⟨b, 0, none⟩ (.int .i32 1)).cell? ⟨gv, at', none⟩ = some (.int .u8 y.toNat) := by
    rw [hbuf.cellAt at' (by omega)]; simp [bVs, bV, hy]
  have k2 : (w.setCell ⟨b, 0, none⟩ (.int .i32 1)).frozen? ⟨gv, at', none⟩ = false := hbuf.frozenAt at'
  have hln : D.lasting.length ≤ 524287 := hok.len
  have hy1 : (0 : Int) ≤ (y.toNat : Int) := Int.natCast_nonneg _
  have hy2 : (y.toNat : Int) ≤ 255 := by have := y.toNat_lt; omega
  have ha0 : (0 : Int) ≤ (at' : Int) := Int.natCast_nonneg _
  have ha1 : (at' : Int) < 4096 := by omega
  have hi0 : (0 : Int) ≤ (i : Int) := Int.natCast_nonneg _
  have hi1 : (i : Int) < (D.lasting.length : Int) := by omega
  have hF2 := page_turned (at' := at') (x := x) hF hp hpl hy hx1 hx2 ⟨lg, lc, rfl, cl⟩ hrole hbuf
  have HF2 := Lib.hid hF2
  have Hp := Lib.hid hp
  have hne : gv ≠ b := fun e => by subst e; rw [hF.str] at hrole; cases hrole
  have hc2 : Chg own.blocks w ((w.setCell ⟨b, 0, none⟩ (.int .i32 1)).setCell ⟨gv, at', none⟩ (.int .u8 (bits .xor .u8 (y.toNat : Int) x))) :=
    ((Chg.refl own.blocks w).setCell (p := ⟨b, 0, none⟩) (.inl (Own.blocks_of hstr)) _).setCell (p := ⟨gv, at', none⟩) (.inl (Own.blocks_of hrole)) _
  have Hc2 := Lib.hid hc2
  clear h hok hF hF2 hp hrole hbuf hpl hy hc2 hstr
  go_enter_defers Try.func46, Try.ntmps46
  go_upto_block 0 with (go_at_call 32; refine (lock_free Try.muLib ⟨b, 0, none⟩ _ hs (hfz 0)).mono ?_; rintro e w' ⟨rfl, rfl⟩)
  obtain ⟨w2, hw2⟩ : ∃ w2, w2 = (w.setCell ⟨b, 0, none⟩ (.int .i32 1)).setCell ⟨gv, at', none⟩ (.int .u8 (bits .xor .u8 (y.toNat : Int) x)) := ⟨_, rfl⟩
  rw [← hw2] at HF2 Hc2 ⊢
  clear hw2 k1 k2 c3 c4 c5 cl
  refine pr_loop w2 own b (D.more (D.lasting.set i (turn p at' (UInt8.ofNat x.toNat)))) sema _ pa pc m HF2.out.toG Hok.out.data Hok.out.no' hn i at' x (by omega) ha hx1 hx2 ?_
  intro u10 u64 u65 u66 u67 u68 u69 u70 u71 u72 u73 u74 u75 u76 u77 u78 u79 u80 u81 w3 h3
  obtain ⟨hG3, hc3⟩ := h3
  have k5 : w3.cell? ⟨b, 5, none⟩ = some (.map (some m)) := by simp [World.cell?, hG3.blk, strCells]
  obtain ⟨hmo, M, hM, hMq⟩ := hG3.now
  have hq := hMq i
  have HG3 := Lib.hid hG3
  have Hc3 := Lib.hid hc3
  have hMo := hM
  have HMo := Lib.hid hMo
  have Hrot : Hid (D.rotted i at' (UInt8.ofNat x.toNat) = { D.more (D.lasting.set i (turn p at' (UInt8.ofNat x.toNat))) with pending := D.pending.map (turnQ i at' (UInt8.ofNat x.toNat)) }) := Lib.hid (by
    unfold DS.rotted DS.more
    rw [List.getD_eq_getElem?_getD, Hp.out]; rfl)
  have HMq := Lib.hid hMq
  clear hG3 hc3 hMq hmo hMo HF2
  change w3.ownsMap Try.prog 3 RV m D.wr M at hM
  change (match lastOf D.pending i with | none => _ | some p => _) at hq
  cases hla : lastOf D.pending i with
  | none =>
    rw [hla] at hq
    have Hhas := Lib.hid hq
    have Hla := Lib.hid hla
    have Hhmo := HG3.out.now.1
    clear hq hla
    go_wp2_with (at_lookup; refine wpList_lookup_own_ok _ rfl _ _ 68 rfl 3 27 law3 Try.underlying68 RV (zero27 _) (.held (.slice none 0 0)) [] rfl m D.wr M rfl hM _ (.int .i64 i) rfl (keyInt (by omega) (by omega)) ?_; intro v' ps' hv'; rw [Hhas.out]; obtain rfl : v' = .slice none 0 0 := held_eq hv' (Maps.atKey_of_not_has Hhas.out _); clear hv')
    have h4 : DiskAt w3 own 1 b (D.rotted i at' (UInt8.ofNat x.toNat)) := by
      rw [Hrot.out]
      have g := HG3.out
      exact ⟨sema, _, _, m, g.str, g.blk, g.last, g.pend, g.now.same Hla.out, g.f0, g.f1, g.lt⟩
    obtain ⟨hs4, hfz4⟩ := h4.lockCell
    refine leaves_cons (f := 33) (args := #[.pointer (some ⟨b, 0, none⟩)]) (by simp) (by simp [go_sem]) ?_
    refine (unlock_deferred Try.muLib ⟨b, 0, none⟩ .returning _ hs4 (hfz4 0)).mono ?_
    rintro e u' w'' ⟨rfl, rfl, rfl⟩
    exact ⟨_, results_tmp rfl _ _ _, rfl, h4.lock 1 0, ((Hc2.out.trans Hc3.out (fun z e => .inl e)).setCell (p := ⟨b, 0, none⟩) (.inl (Own.blocks_of Hstr.out)) _), fun z hz => .inl hz⟩
  | some p2 =>
    rw [hla] at hq
    obtain ⟨hhas, v, hat, gn, cn, rfl, hrole, hrow⟩ := hq
    have hlen : p2.length = 4096 := by
      obtain ⟨q, hq1, _, hq2⟩ := lastOf_some hla
      rw [← hq2]; exact Hok.out.data q hq1
    rw [hlen] at hat hrow
    obtain ⟨y2, hy2'⟩ : ∃ y, p2[at']? = some y := ⟨_, List.getElem?_eq_getElem (by rw [hlen]; exact ha)⟩
    have n1 : w3.cell? ⟨gn, at', none⟩ = some (.int .u8 y2.toNat) := by
      rw [hrow.cellAt at' (by omega)]; simp [bVs, bV, hy2']
    have n2 : w3.frozen? ⟨gn, at', none⟩ = false := hrow.frozenAt at'
    have hz1 : (0 : Int) ≤ (y2.toNat : Int) := Int.natCast_nonneg _
    have hz2 : (y2.toNat : Int) ≤ 255 := by have := y2.toNat_lt; omega
    have Hhas := Lib.hid hhas
    have Hat := Lib.hid hat
    have Hla := Lib.hid hla
    have Hlen := Lib.hid hlen
    have Hrole := Lib.hid hrole
    have Hrt := Lib.hid (turn_row hrow hlen hy2' hx1 hx2)
    clear hhas hat hla hlen hrole hrow hy2'
    go_wp2_with (at_lookup; refine wpList_lookup_own_ok _ rfl _ _ 68 rfl 3 27 law3 Try.underlying68 RV (zero27 _) (.held (.slice none 0 0)) [] rfl m D.wr M rfl hM _ (.int .i64 i) rfl (keyInt (by omega) (by omega)) ?_; intro v' ps' hv'; rw [Hhas.out]; obtain rfl : v' = .slice (some ⟨gn, 0, none⟩) 4096 cn := held_eq hv' (Hat.out _); clear hv')
    obtain ⟨w4, hw4⟩ : ∃ w4, w4 = w3.setCell ⟨gn, at', none⟩ (.int .u8 (bits .xor .u8 (y2.toNat : Int) x)) := ⟨_, rfl⟩
    rw [← hw4]
    have hc4 : Chg (fun z => z = gn) w3 w4 := by rw [hw4]; exact chg1 _
    have hr4 : w4.ownsRow 0 5 1 (.slice (some ⟨gn, 0, none⟩) 4096 cn) 4096 (bVs (turn p2 at' (UInt8.ofNat x.toNat))) := by rw [hw4]; exact Hrt.out
    have hne4 : ∀ r, r ≠ .now i → ∀ z, own z = some r → ¬ z = gn := fun r hr z e e2 => by subst e2; rw [Hrole.out] at e; cases e; exact hr rfl
    have h4 : DiskAt w4 own 1 b (D.rotted i at' (UInt8.ofNat x.toNat)) := by
      rw [Hrot.out]
      have g := HG3.out
      refine ⟨sema, _, _, m, g.str, hc4.get g.blk (hne4 _ (by simp) b g.str), g.last.chg hc4 (fun z => hne4 _ (by simp) z) (fun z i => hne4 _ (by simp) z), g.pend.chg hc4 (fun z => hne4 _ (by simp) z) (fun z i => hne4 _ (by simp) z), ?_, g.f0, g.f1, fun z hz => Nat.lt_of_lt_of_le (g.lt z hz) hc4.size⟩
      exact NowAt.turn (S := fun z => z = gn) (M := M) g.now.1 HMo.out HMq.out Hla.out Hrole.out hc4 (fun z e => e) (cap := cn) (fun z => by rw [Hlen.out]; exact Hat.out z) (by rw [Hlen.out]; exact hr4)
    obtain ⟨hs4, hfz4⟩ := h4.lockCell
    refine leaves_cons (f := 33) (args := #[.pointer (some ⟨b, 0, none⟩)]) (by simp) (by simp [go_sem]) ?_
    refine (unlock_deferred Try.muLib ⟨b, 0, none⟩ .returning _ hs4 (hfz4 0)).mono ?_
    rintro e u' w'' ⟨rfl, rfl, rfl⟩
    exact ⟨_, results_tmp rfl _ _ _, rfl, h4.lock 1 0, (((Hc2.out.trans Hc3.out (fun z e => .inl e)).trans hc4 (fun z e => .inl (by have e2 : z = gn := e; subst e2; exact Own.blocks_of Hrole.out))).setCell (p := ⟨b, 0, none⟩) (.inl (Own.blocks_of Hstr.out)) _), fun z hz => .inl hz⟩

end Go.Proofs.Ytckioocahmbhkaa
