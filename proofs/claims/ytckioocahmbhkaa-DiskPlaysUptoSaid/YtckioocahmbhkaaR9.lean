/- The reference's Rot. -/
import Derived.Test.YtckioocahmbhkaaR8
import Derived.Laws.BitsAllLaws
namespace Go.Proofs.Ytckioocahmbhkaa
open Go Go.RowKit Go.Maps Go.MuLone

/-- A byte of a page turned. -/
def turn (p : List UInt8) (at' : Nat) (x : UInt8) : List UInt8 := p.set at' (p.getD at' 0 ^^^ x)
theorem turn_length (p : List UInt8) (at' : Nat) (x : UInt8) : (turn p at' x).length = p.length := by simp [turn]
def turnQ (i at' : Nat) (x : UInt8) (q : Nat × List UInt8) : Nat × List UInt8 := if q.1 = i then (q.1, turn q.2 at' x) else q

def DS.rotted (D : DS) (i at' : Nat) (x : UInt8) : DS := { D with lasting := D.lasting.set i (turn (D.lasting.getD i []) at' x), pending := D.pending.map (turnQ i at' x) }
def DS.rot (D : DS) (i at' x : Int) : Int × DS :=
  if i < 0 ∨ (D.lasting.length : Int) ≤ i then (121, D) else if at' < 0 ∨ 4096 ≤ at' ∨ x < 1 ∨ 255 < x then (124, D) else (0, D.rotted i.toNat at'.toNat (UInt8.ofNat x.toNat))

theorem xor_bV (y : UInt8) (x : Int) (h1 : 1 ≤ x) (h2 : x ≤ 255) : Value.int .u8 (bits .xor .u8 (y.toNat : Int) x) = bV (y ^^^ UInt8.ofNat x.toNat) := by
  unfold bV
  rw [u8_xor _ _ (Int.natCast_nonneg _) (by have := y.toNat_lt; omega) (by omega) (by omega), UInt8.toNat_xor, UInt8.toNat_ofNat', Int.toNat_natCast, Nat.mod_eq_of_lt (by omega)]

theorem turn_row {w : World} {gp cp at' : Nat} {p : List UInt8} {y : UInt8} {x : Int} (h : w.ownsRow 0 5 1 (.slice (some ⟨gp, 0, none⟩) 4096 cp) 4096 (bVs p)) (hpl : p.length = 4096) (hy : p[at']? = some y) (h1 : 1 ≤ x) (h2 : x ≤ 255) :
    (w.setCell ⟨gp, at', none⟩ (.int .u8 (bits .xor .u8 (y.toNat : Int) x))).ownsRow 0 5 1 (.slice (some ⟨gp, 0, none⟩) 4096 cp) 4096 (bVs (turn p at' (UInt8.ofNat x.toNat))) := by
  have hl := (List.getElem?_eq_some_iff.1 hy).1
  have := ownsRow_setCell h at' (bV (y ^^^ UInt8.ofNat x.toNat)) (by rw [bVs_length]; exact hl)
  rw [xor_bV y x h1 h2]
  rw [← bVs_set] at this
  unfold turn
  rw [List.getD_eq_getElem?_getD, hy]
  exact this

theorem pcells_set (Q : List (Nat × List UInt8)) (vs : List Value) (h : vs.length = Q.length) (k no : Nat) (p : List UInt8) (v : Value) (hk : k < Q.length) :
    ((pcells Q vs).set (k * 2) (.int .i64 no)).set (k * 2 + 1) v = pcells (Q.set k (no, p)) (vs.set k v) := by
  induction Q generalizing vs k with
  | nil => simp at hk
  | cons q Q ih =>
    cases vs with
    | nil => simp at h
    | cons v0 vs =>
      have e : pcells (q :: Q) (v0 :: vs) = .int .i64 q.1 :: v0 :: pcells Q vs := by simp [pcells]
      cases k with
      | zero => simp [pcells]
      | succ k =>
        have e2 : ∀ (a c X Y : Value) (R : List Value), ((a :: c :: R).set ((k + 1) * 2) X).set ((k + 1) * 2 + 1) Y = a :: c :: ((R.set (k * 2) X).set (k * 2 + 1) Y) := fun a c X Y R => by
          rw [show (k + 1) * 2 = k * 2 + 2 by omega]; rfl
        rw [e, e2, ih vs (by simpa using h) k (by simpa using hk)]
        simp [pcells]

/-- A write is another one, its bytes in new memory. -/
theorem PendAt.put {w w' : World} {own own' : Own} {pv : Value} {Q : List (Nat × List UInt8)} {g capg k no : Nat} {vs : List Value} {p : List UInt8} {S : Nat → Prop}
    (hvs : vs.length = Q.length) (hpo : ∀ x, pv.ownBlock = some x → own x = some .parr) (hvp : ∀ (i : Nat) (q : Nat × List UInt8), Q[i]? = some q → ∃ v, vs[i]? = some v ∧ Buf w own (.pend i) v q.2)
    (hk : k < Q.length) (hle : own.le own') (ho1 : own' g = some (.pend k)) (hc : Chg S w w') (hs : ∀ x i, own x = some (.pend i) → ¬ S x)
    (hp : w'.ownsRow 0 5 1 (.slice (some ⟨g, 0, none⟩) p.length capg) p.length (bVs p))
    (hl : w'.ownsRow 0 79 2 pv Q.length (((pcells Q vs).set (k * 2) (.int .i64 no)).set (k * 2 + 1) (.slice (some ⟨g, 0, none⟩) p.length capg))) :
    PendAt w' own' pv (Q.set k (no, p)) := by
  refine ⟨vs.set k (.slice (some ⟨g, 0, none⟩) p.length capg), by simp [hvs], ⟨?_, fun x hx => hle _ _ (hpo x hx)⟩, fun j q hj => ?_⟩
  · rw [pcells_set Q vs hvs k no p _ hk] at hl
    rw [List.length_set]; exact hl
  · by_cases e : k = j
    · subst e
      rw [List.getElem?_set_self hk] at hj
      cases hj
      exact ⟨_, List.getElem?_set_self (by omega), g, capg, rfl, ho1, hp⟩
    · rw [List.getElem?_set_ne e] at hj
      obtain ⟨v, hv, hb⟩ := hvp j q hj
      exact ⟨v, by rw [List.getElem?_set_ne e]; exact hv, (hb.chg hc (fun x e' => hs x _ e')).le hle⟩

theorem RefF.putP {w w' : World} {own own' : Own} {b k g cap no : Nat} {D : DS} {lv pv : Value} {vs : List Value} {p : List UInt8} (h : RefF w own b D lv pv)
    (hvs : vs.length = D.pending.length) (hpo : ∀ x, pv.ownBlock = some x → own x = some .parr) (hvp : ∀ (i : Nat) (q : Nat × List UInt8), D.pending[i]? = some q → ∃ v, vs[i]? = some v ∧ Buf w own (.pend i) v q.2)
    (hk : k < D.pending.length) (hle : own.le own') (ho1 : own' g = some (.pend k)) (ho3 : ∀ x, own'.blocks x → own.blocks x ∨ x = g) (hc : Chg (fun x => pv.ownBlock = some x) w w')
    (hp : w'.ownsRow 0 5 1 (.slice (some ⟨g, 0, none⟩) p.length cap) p.length (bVs p))
    (hl : w'.ownsRow 0 79 2 pv D.pending.length (((pcells D.pending vs).set (k * 2) (.int .i64 no)).set (k * 2 + 1) (.slice (some ⟨g, 0, none⟩) p.length cap))) :
    RefF w' own' b { D with pending := D.pending.set k (no, p) } lv pv := by
  have kk : ∀ x r, own x = some r → r ≠ .parr → ¬ (pv.ownBlock = some x) := fun x r e hr' hx => by
    rw [hpo _ hx] at e; cases e; exact hr' rfl
  refine ⟨hle _ _ h.str, hc.get h.blk (kk b _ h.str (by simp)), ?_, ?_, h.f0, h.f1, fun x hx => ?_⟩
  · exact (h.last.chg hc (fun x e => kk x _ e (by simp)) (fun x i e => kk x _ e (by simp))).le hle
  · exact PendAt.put hvs hpo hvp hk hle ho1 hc (fun x i e => kk x _ e (by simp)) hp hl
  · rcases ho3 x hx with e | e
    · exact Nat.lt_of_lt_of_le (h.lt x e) hc.size
    · subst e; exact row_lt hp

/-- The first k writes turned. -/
def turnK (qs : List (Nat × List UInt8)) (i at' : Nat) (x : UInt8) (k : Nat) : List (Nat × List UInt8) := (qs.take k).map (turnQ i at' x) ++ qs.drop k
theorem turnK_length (qs : List (Nat × List UInt8)) (i at' : Nat) (x : UInt8) (k : Nat) : (turnK qs i at' x k).length = qs.length := by simp [turnK]; omega
theorem turnK_get (qs : List (Nat × List UInt8)) (i at' : Nat) (x : UInt8) (k : Nat) (q : Nat × List UInt8) (h : qs[k]? = some q) : (turnK qs i at' x k)[k]? = some q := by
  have hk := (List.getElem?_eq_some_iff.1 h).1
  unfold turnK
  rw [List.getElem?_append_right (by simp; omega)]
  simp [Nat.min_eq_left (Nat.le_of_lt hk), h]
theorem turnK_succ (qs : List (Nat × List UInt8)) (i at' : Nat) (x : UInt8) (k : Nat) (q : Nat × List UInt8) (h : qs[k]? = some q) : turnK qs i at' x (k + 1) = (turnK qs i at' x k).set k (turnQ i at' x q) := by
  have hk := (List.getElem?_eq_some_iff.1 h).1
  have e : qs.drop k = q :: qs.drop (k + 1) := by
    rw [List.drop_eq_getElem_cons hk]
    have := (List.getElem?_eq_some_iff.1 h).2
    rw [this]
  unfold turnK
  rw [List.take_add_one, h, e, List.set_append_right _ _ (by simp; omega)]
  simp [Nat.min_eq_left (Nat.le_of_lt hk)]
theorem turnK_all (qs : List (Nat × List UInt8)) (i at' : Nat) (x : UInt8) : turnK qs i at' x qs.length = qs.map (turnQ i at' x) := by simp [turnK]
theorem turnK_zero (qs : List (Nat × List UInt8)) (i at' : Nat) (x : UInt8) : turnK qs i at' x 0 = qs := by simp [turnK]

set_option maxRecDepth 100000 in
set_option maxHeartbeats 4000000 in
theorem rr_loop {Q0 : Exit → Act → World → Prop} {s4 s5 s6 s7 s8 s9 s11 s12 s13 s14 s15 s16 s17 s18 s19 s20 s21 s22 s23 s24 s25 s26 s27 s28 s29 s30 s31 s32 s33 s34 s35 s36 s37 s38 s39 s40 s41 s42 s43 s44 s45 s46 s47 s48 s49 s50 s51 s52 s53 s54 s55 s56 s57 s58 s59 s60 s61 s62 s63 s64 s65 s66 s67 s68 s69 s70 s71 s72 s73 s74 s75 s76 s77 s78 s79 s80 s81 s82 s83 s84 s85 s86 s87 s88 s89 s90 s91 s92 s93 s94 s95 s96 s97 s98 s99 s100 s101 s102 s103 s104 s105 s106 s107 s108 : Value} (w : World) (own : Own) (b : Nat) (D : DS) (lv pv : Value) (hF : RefF w own b D lv pv) (hq : ∀ q ∈ D.pending, q.2.length = 4096) (hqn : ∀ q ∈ D.pending, q.1 ≤ 1000000) (hn : D.pending.length ≤ 1000000) (i at' : Nat) (x : Int) (hi : i ≤ 1000000) (ha : at' < 4096) (hx1 : 1 ≤ x) (hx2 : x ≤ 255)
    (hexit : ∀ ⦃u10 u11 u62 u63 u64 u65 u66 u67 u68 u69 u70 u71 u72 u73 u74 u75 u76 u77 u78 u79 u80 u81 u82 u83 u84 u85 u86 u87 u88 u89 u90 u91 u92 u93 u94 u95 u96 u97 u98 u99 u100 u101 u102 u103 u104 u105 u106 u107 u108 : Value⦄ (w' : World), (∃ own', RefF w' own' b { D with pending := D.pending.map (turnQ i at' (UInt8.ofNat x.toNat)) } lv pv ∧ Step w own w' own') → Q0 .normal ⟨List.toArray (.pointer (some ⟨b, 0, none⟩) :: .int .i64 i :: .int .i64 at' :: .int .i64 x :: s4 :: s5 :: s6 :: s7 :: s8 :: s9 :: u10 :: u11 :: s12 :: s13 :: s14 :: s15 :: s16 :: s17 :: s18 :: s19 :: s20 :: s21 :: s22 :: s23 :: s24 :: s25 :: s26 :: s27 :: s28 :: s29 :: s30 :: s31 :: s32 :: s33 :: s34 :: s35 :: s36 :: s37 :: s38 :: s39 :: s40 :: s41 :: s42 :: s43 :: s44 :: s45 :: s46 :: s47 :: s48 :: s49 :: s50 :: s51 :: s52 :: s53 :: s54 :: s55 :: s56 :: s57 :: s58 :: s59 :: s60 :: s61 :: u62 :: u63 :: u64 :: u65 :: u66 :: u67 :: u68 :: u69 :: u70 :: u71 :: u72 :: u73 :: u74 :: u75 :: u76 :: u77 :: u78 :: u79 :: u80 :: u81 :: u82 :: u83 :: u84 :: u85 :: u86 :: u87 :: u88 :: u89 :: u90 :: u91 :: u92 :: u93 :: u94 :: u95 :: u96 :: u97 :: u98 :: u99 :: u100 :: u101 :: u102 :: u103 :: u104 :: u105 :: u106 :: u107 :: u108 :: []), []⟩ w') :
    Code.wp Try.prog (blk 0 Try.f47) Q0 ⟨List.toArray (.pointer (some ⟨b, 0, none⟩) :: .int .i64 i :: .int .i64 at' :: .int .i64 x :: s4 :: s5 :: s6 :: s7 :: s8 :: s9 :: .int .i64 0 :: s11 :: s12 :: s13 :: s14 :: s15 :: s16 :: s17 :: s18 :: s19 :: s20 :: s21 :: s22 :: s23 :: s24 :: s25 :: s26 :: s27 :: s28 :: s29 :: s30 :: s31 :: s32 :: s33 :: s34 :: s35 :: s36 :: s37 :: s38 :: s39 :: s40 :: s41 :: s42 :: s43 :: s44 :: s45 :: s46 :: s47 :: s48 :: s49 :: s50 :: s51 :: s52 :: s53 :: s54 :: s55 :: s56 :: s57 :: s58 :: s59 :: s60 :: s61 :: s62 :: s63 :: s64 :: s65 :: s66 :: s67 :: s68 :: s69 :: s70 :: s71 :: s72 :: s73 :: s74 :: s75 :: s76 :: s77 :: s78 :: s79 :: s80 :: s81 :: s82 :: s83 :: s84 :: s85 :: s86 :: s87 :: s88 :: s89 :: s90 :: s91 :: s92 :: s93 :: s94 :: s95 :: s96 :: s97 :: s98 :: s99 :: s100 :: s101 :: s102 :: s103 :: s104 :: s105 :: s106 :: s107 :: s108 :: []), []⟩ w := by
  have HX := Lib.hid hexit
  have HF := Lib.hid hF
  have Hq := Lib.hid hq
  have Hqn := Lib.hid hqn
  obtain ⟨pa, pc, rfl⟩ := hF.pend.form
  obtain ⟨x', hx'⟩ : ∃ x', x' = UInt8.ofNat x.toNat := ⟨_, rfl⟩
  have Hx' := Lib.hid hx'
  clear hexit hF hq hqn hx'
  conv => arg 2; whnf
  go_wp2_with fail
  go_loopg [10] D.pending.length (fun gm iv wr => ∃ (k : Nat) (own' : Own), k ≤ D.pending.length ∧ gm = D.pending.length - k ∧ iv = .int .i64 k ∧ RefF wr own' b { D with pending := turnK D.pending i at' x' k } lv (.slice pa D.pending.length pc) ∧ Step w own wr own')
  case atStart => exact ⟨0, own, by omega, rfl, rfl, by rw [turnK_zero]; exact HF.out, Step.refl _ _⟩
  case round =>
    obtain ⟨k, own1, hk, hg, rfl, h1, hst⟩ := hrel
    obtain ⟨_, c2⟩ := h1.fields
    have Hg := Lib.hid hg
    have H1 := Lib.hid h1
    have Hst := Lib.hid hst
    clear hg hst
    by_cases hlt : k < D.pending.length
    · obtain ⟨q, hq⟩ : ∃ q, D.pending[k]? = some q := ⟨_, List.getElem?_eq_getElem hlt⟩
      obtain ⟨vs, hvl, ⟨hpa, hpo⟩, hpv⟩ := h1.pend
      have hq2 := turnK_get D.pending i at' x' k q hq
      change vs.length = (turnK D.pending i at' x' k).length at hvl
      change wr.ownsRow 0 79 2 (.slice pa D.pending.length pc) (turnK D.pending i at' x' k).length (pcells (turnK D.pending i at' x' k) vs) at hpa
      have htl := turnK_length D.pending i at' x' k
      rw [htl] at hpa
      obtain ⟨_, pc', e, _, hpm, hpgg⟩ := ownsRow_slice hpa
      cases e
      obtain ⟨pg, rfl⟩ := hpgg (by omega)
      obtain ⟨v, hv, gv, cv, rfl, ho, hr⟩ := hpv k q hq2
      obtain ⟨e1, e2⟩ := pcells_get _ vs k q _ hq2 hv
      have hcl := pcells_length _ vs hvl
      have d1 : wr.cell? ⟨pg, k * 2, none⟩ = some (.int .i64 q.1) := (hpa.cellAt (k * 2) (by omega)).trans e1
      have d2 : wr.cell? ⟨pg, k * 2 + 1, none⟩ = some (.slice (some ⟨gv, 0, none⟩) q.2.length cv) := (hpa.cellAt (k * 2 + 1) (by omega)).trans e2
      have hqm := List.mem_of_getElem? hq
      have hql : q.2.length = 4096 := Hq.out q hqm
      have hq1 := Hqn.out q hqm
      have HS := Lib.hid (SeesB.of_row hr)
      have hk0 : (0 : Int) ≤ (k : Int) := Int.natCast_nonneg _
      have hk1 : (k : Int) < (D.pending.length : Int) := by omega
      have Hsu := Lib.hid (turnK_succ D.pending i at' x' k q hq)
      have Hql := Lib.hid hql
      have Hvl := Lib.hid hvl
      have Hpa := Lib.hid hpa
      have Hpo := Lib.hid hpo
      have Hpv := Lib.hid hpv
      have Htl := Lib.hid htl
      have Hcl := Lib.hid hcl
      have Hqq := Lib.hid hq
      clear h1 hq hqm hql hr e1 e2 hcl hvl hpa hpo hpv ho hq2 htl hv
      by_cases hqi : q.1 = i
      · have hb1 : ((q.1 : Int) == (i : Int)) = true := by rw [beq_iff_eq]; omega
        have Hqi := Lib.hid hqi
        clear hqi
        go_wp2_with fail
        refine (bytes_any _ _ q.2 HS.out (by rw [Hql.out]; omega)).mono ?_
        rintro e w2 ⟨gp, cp, rfl, hge, hrp, hc2⟩
        rw [Hql.out] at hrp ⊢
        obtain ⟨y, hy⟩ : ∃ y, q.2[at']? = some y := ⟨_, List.getElem?_eq_getElem (by rw [Hql.out]; exact ha)⟩
        have k1 : w2.cell? ⟨gp, at', none⟩ = some (.int .u8 y.toNat) := by
          rw [hrp.cellAt at' (by omega)]; simp [bVs, bV, hy]
        have k2 : w2.frozen? ⟨gp, at', none⟩ = false := hrp.frozenAt at'
        have hy1 : (0 : Int) ≤ (y.toNat : Int) := Int.natCast_nonneg _
        have hy2 : (y.toNat : Int) ≤ 255 := by have := y.toNat_lt; omega
        have ha0 : (0 : Int) ≤ (at' : Int) := Int.natCast_nonneg _
        have ha1 : (at' : Int) < 4096 := by omega
        have Hrt := Lib.hid (turn_row hrp Hql.out hy hx1 hx2)
        have Hc2 := Lib.hid hc2
        clear hrp hc2 hy
        go_upto_region 14 with fail
        obtain ⟨w3, hw3⟩ : ∃ w3, w3 = w2.setCell ⟨gp, at', none⟩ (.int .u8 (bits .xor .u8 (y.toNat : Int) x)) := ⟨_, rfl⟩
        rw [← hw3]
        have hc3 : Chg (fun z => z = gp) w2 w3 := by rw [hw3]; exact chg1 _
        have hr3 : w3.ownsRow 0 5 1 (.slice (some ⟨gp, 0, none⟩) 4096 cp) 4096 (bVs (turn q.2 at' x')) := by rw [hw3, Hx'.out]; exact Hrt.out
        have hc13 : Chg (fun z => z = gp) wr w3 := (Hc2.out.mono (fun _ f => f.elim)).trans hc3 (fun z e => .inl e)
        have hbl : b < wr.heap.size := H1.out.lt b (Own.blocks_of H1.out.str)
        have hpgl : pg < wr.heap.size := World.block_lt_of_cell? _ _ d1
        have m1 : w3.cell? ⟨b, 2, none⟩ = some (.slice (some ⟨pg, 0, none⟩) D.pending.length pc) := (cell_chg hc13 hbl (by omega)).trans c2
        have hpa3 := ownsRow_chg Hpa.out hc13 (fun z e => by simp only [Value.ownBlock, Option.some.injEq] at e; omega)
        have m2 : w3.cell? ⟨pg, k * 2, none⟩ = some (.int .i64 q.1) := (cell_chg hc13 hpgl (by omega)).trans d1
        have m3 : w3.cell? ⟨pg, k * 2 + 1, none⟩ = some (.slice (some ⟨gv, 0, none⟩) q.2.length cv) := (cell_chg hc13 hpgl (by omega)).trans d2
        have m4 : w3.frozen? ⟨pg, k * 2, none⟩ = false := hpa3.frozenAt _
        have m5 : w3.frozen? ⟨pg, k * 2 + 1, none⟩ = false := hpa3.frozenAt _
        have Hc13 := Lib.hid hc13
        have Hr3 := Lib.hid hr3
        have Hpa3 := Lib.hid hpa3
        clear hw3 hc3 hr3 hc13 hpa3 k1 k2 Hrt
        go_wp2_with fail
        obtain ⟨own2, hown2⟩ : ∃ own2, own2 = own1.upd gp (.pend k) := ⟨_, rfl⟩
        have hfresh : ¬ own1.blocks gp := fun e => by have := H1.out.lt gp e; omega
        have hle2 : own1.le own2 := by rw [hown2]; exact Own.le_upd _ hfresh
        have hb2 : ∀ z, own2.blocks z → own1.blocks z ∨ z = gp := fun z hz => by rw [hown2] at hz; exact Own.blocks_upd hz
        have hlr : own1 pg = some .parr := Hpo.out pg rfl
        have htq : (turn q.2 at' x').length = 4096 := by rw [turn_length, Hql.out]
        have hcw : Chg (fun z => z = pg) wr ((w3.setCell ⟨pg, k * 2, none⟩ (.int .i64 i)).setCell ⟨pg, k * 2 + 1, none⟩ (.slice (some ⟨gp, 0, none⟩) 4096 cp)) :=
          (((Chg.refl (fun z => z = pg) wr).trans Hc13.out (fun z e => .inr (by omega))).setCell (p := ⟨pg, k * 2, none⟩) (.inl rfl) _).setCell (p := ⟨pg, k * 2 + 1, none⟩) (.inl rfl) _
        have hput := RefF.putP (w' := (w3.setCell ⟨pg, k * 2, none⟩ (.int .i64 i)).setCell ⟨pg, k * 2 + 1, none⟩ (.slice (some ⟨gp, 0, none⟩) 4096 cp)) (own' := own2) (k := k) (g := gp) (cap := cp) (no := i) (p := turn q.2 at' x') H1.out Hvl.out Hpo.out Hpv.out (by show k < (turnK D.pending i at' x' k).length; rw [Htl.out]; exact hlt) hle2 (by rw [hown2]; exact Own.upd_same _ _ _) hb2
          (hcw.mono (fun z e => by subst e; rfl)) (by rw [htq]; exact ownsRow_chg Hr3.out (((Chg.refl (fun z => z = pg) w3).setCell (p := ⟨pg, k * 2, none⟩) (.inl rfl) _).setCell (p := ⟨pg, k * 2 + 1, none⟩) (.inl rfl) _) (fun z e => by simp only [Value.ownBlock, Option.some.injEq] at e; omega))
          (by
            show World.ownsRow _ 0 79 2 _ (turnK D.pending i at' x' k).length _
            rw [htq, Htl.out]
            exact ownsRow_setCell (ownsRow_setCell Hpa3.out (k * 2) (.int .i64 i) (by have h1 := Hcl.out; have h2 := Htl.out; omega)) (k * 2 + 1) _ (by rw [List.length_set]; have h1 := Hcl.out; have h2 := Htl.out; omega))
        have hset : turnK D.pending i at' x' (k + 1) = (turnK D.pending i at' x' k).set k (i, turn q.2 at' x') := by rw [Hsu.out]; unfold turnQ; rw [if_pos Hqi.out, Hqi.out]
        go_roundg (D.pending.length - (k + 1))
        case measure => have := Hg.out; omega
        case rel =>
          refine ⟨k + 1, own2, by omega, rfl, by go_num, by rw [hset]; exact hput, Hst.out.trans ⟨hcw.mono (fun z e => by subst e; exact Own.blocks_of hlr), fun z hz => (hb2 z hz).imp id (fun e => by omega)⟩⟩
      · have hb1 : ((q.1 : Int) == (i : Int)) = false := by rw [beq_eq_false_iff_ne]; omega
        have hset : turnK D.pending i at' x' (k + 1) = turnK D.pending i at' x' k := by
          rw [Hsu.out]; unfold turnQ; rw [if_neg hqi]
          have hq2 : (turnK D.pending i at' x' k)[k]? = some q := by
            exact turnK_get D.pending i at' x' k q Hqq.out
          apply List.ext_getElem?
          intro j
          by_cases e : k = j
          · subst e; rw [List.getElem?_set_self (List.getElem?_eq_some_iff.1 hq2).1, hq2]
          · rw [List.getElem?_set_ne e]
        have Hset := Lib.hid hset
        clear hset hqi
        go_wp2_with fail
        go_roundg (D.pending.length - (k + 1))
        case measure => have := Hg.out; omega
        case rel => exact ⟨k + 1, own1, by omega, rfl, by go_num, by rw [Hset.out]; exact H1.out, Hst.out⟩
    · obtain rfl : k = D.pending.length := by omega
      have HT := Lib.hid (turnK_all D.pending i at' x')
      clear h1
      go_wp2_with fail
      refine HX.out _ ⟨own1, ?_, Hst.out⟩
      have := H1.out
      rw [HT.out, Hx'.out] at this
      exact this

set_option maxRecDepth 100000 in
set_option maxHeartbeats 4000000 in
theorem rrot_go (w : World) (own : Own) (b : Nat) (D : DS) (h : RefAt w own b D) (hok : D.ok) (hn : D.pending.length ≤ 1000000) (i at' : Nat) (x : Int) (hi : i < D.lasting.length) (ha : at' < 4096) (hx1 : 1 ≤ x) (hx2 : x ≤ 255) :
    Calls Try.prog 47 #[.pointer (some ⟨b, 0, none⟩), .int .i64 i, .int .i64 at', .int .i64 x] w fun e w' => e = .returned (.int .i64 0) ∧ ∃ own', RefAt w' own' b (D.rotted i at' (UInt8.ofNat x.toNat)) ∧ Step w own w' own' := by
  obtain ⟨lv, pv, hF⟩ := h
  obtain ⟨p, hp⟩ : ∃ p, D.lasting[i]? = some p := ⟨_, List.getElem?_eq_getElem hi⟩
  have hpl : p.length = 4096 := hok.page p (List.mem_of_getElem? hp)
  obtain ⟨c1, _⟩ := hF.fields
  obtain ⟨lg, lc, gv, cv, rfl, cl, hrole, hbuf⟩ := hF.last.at hp
  have HS := Lib.hid (SeesB.of_row hbuf)
  have hln : D.lasting.length ≤ 524287 := hok.len
  have HF := Lib.hid hF
  have Hok := Lib.hid hok
  have Hp := Lib.hid hp
  have Hpl := Lib.hid hpl
  have hi0 : (0 : Int) ≤ (i : Int) := Int.natCast_nonneg _
  have hi1 : (i : Int) < (D.lasting.length : Int) := by omega
  have ha0 : (0 : Int) ≤ (at' : Int) := Int.natCast_nonneg _
  have ha1 : (at' : Int) < 4096 := by omega
  clear hF hok hp hrole hbuf hpl
  go_enter Try.func47, Try.ntmps47
  go_wp2_with fail
  refine (bytes_any _ _ p HS.out (by rw [Hpl.out]; omega)).mono ?_
  rintro e w2 ⟨gp, cp, rfl, hge, hrp, hc2⟩
  rw [Hpl.out] at hrp ⊢
  obtain ⟨y, hy⟩ : ∃ y, p[at']? = some y := ⟨_, List.getElem?_eq_getElem (by rw [Hpl.out]; exact ha)⟩
  have d1 : w2.cell? ⟨gp, at', none⟩ = some (.int .u8 y.toNat) := by
    rw [hrp.cellAt at' (by omega)]; simp [bVs, bV, hy]
  have d2 : w2.frozen? ⟨gp, at', none⟩ = false := hrp.frozenAt at'
  have hy1 : (0 : Int) ≤ (y.toNat : Int) := Int.natCast_nonneg _
  have hy2 : (y.toNat : Int) ≤ 255 := by have := y.toNat_lt; omega
  have hcl : w2.cell? ⟨b, 1, none⟩ = some (.slice (some ⟨lg, 0, none⟩) D.lasting.length lc) := (cell_chg hc2 (HF.out.lt b (Own.blocks_of HF.out.str)) (fun f => f)).trans c1
  have Hrt := Lib.hid (turn_row hrp Hpl.out hy hx1 hx2)
  have Hy := Lib.hid hy
  have Hc2 := Lib.hid hc2
  clear hrp hc2 hy
  go_upto_region 7 with fail
  obtain ⟨x', hx'⟩ : ∃ x', x' = UInt8.ofNat x.toNat := ⟨_, rfl⟩
  obtain ⟨w3, hw3⟩ : ∃ w3, w3 = w2.setCell ⟨gp, at', none⟩ (.int .u8 (bits .xor .u8 (y.toNat : Int) x)) := ⟨_, rfl⟩
  rw [← hw3]
  obtain ⟨ls, hls, ⟨hla, hlo⟩, hlp⟩ := HF.out.last
  have hc3 : Chg (fun z => z = gp) w2 w3 := by rw [hw3]; exact chg1 _
  have hr3 : w3.ownsRow 0 5 1 (.slice (some ⟨gp, 0, none⟩) 4096 cp) 4096 (bVs (turn p at' x')) := by rw [hw3, hx']; exact Hrt.out
  have hc13 : Chg (fun z => z = gp) w w3 := (Hc2.out.mono (fun _ f => f.elim)).trans hc3 (fun z e => .inl e)
  have hbl : b < w.heap.size := HF.out.lt b (Own.blocks_of HF.out.str)
  have hlgl : lg < w.heap.size := World.block_lt_of_cell? _ _ cl
  have hla3 := ownsRow_chg hla hc13 (fun z e => by simp only [Value.ownBlock, Option.some.injEq] at e; omega)
  have m1 : w3.cell? ⟨b, 1, none⟩ = some (.slice (some ⟨lg, 0, none⟩) D.lasting.length lc) := (cell_chg hc13 hbl (by omega)).trans c1
  have m2 : w3.cell? ⟨lg, i, none⟩ = some (.slice (some ⟨gv, 0, none⟩) p.length cv) := (cell_chg hc13 hlgl (by omega)).trans cl
  have m4 : w3.frozen? ⟨lg, i, none⟩ = false := hla3.frozenAt _
  have Hc13 := Lib.hid hc13
  have Hr3 := Lib.hid hr3
  have Hla3 := Lib.hid hla3
  have Hlo := Lib.hid hlo
  have Hlp := Lib.hid hlp
  have Hls := Lib.hid hls
  have Hx' := Lib.hid hx'
  clear hw3 hc3 hr3 hc13 hla3 d1 d2 Hrt hla hlo hlp hls hx' hcl
  go_upto_block 0 with fail
  obtain ⟨own2, hown2⟩ : ∃ own2, own2 = own.upd gp (.page i) := ⟨_, rfl⟩
  have hfresh : ¬ own.blocks gp := fun e => by have := HF.out.lt gp e; omega
  have hle2 : own.le own2 := by rw [hown2]; exact Own.le_upd _ hfresh
  have hb2 : ∀ z, own2.blocks z → own.blocks z ∨ z = gp := fun z hz => by rw [hown2] at hz; exact Own.blocks_upd hz
  have hlr : own lg = some .larr := Hlo.out lg rfl
  have htq : (turn p at' x').length = 4096 := by rw [turn_length, Hpl.out]
  have hll := Hls.out
  have hcw : Chg (fun z => z = lg) w (w3.setCell ⟨lg, i, none⟩ (.slice (some ⟨gp, 0, none⟩) 4096 cp)) :=
    ((Chg.refl (fun z => z = lg) w).trans Hc13.out (fun z e => .inr (by omega))).setCell (p := ⟨lg, i, none⟩) (.inl rfl) _
  have hput := RefF.put (w' := w3.setCell ⟨lg, i, none⟩ (.slice (some ⟨gp, 0, none⟩) 4096 cp)) (own' := own2) (i := i) (g := gp) (cap := cp) (p := turn p at' x') HF.out Hls.out Hlo.out Hlp.out hi hle2 (by rw [hown2]; exact Own.upd_same _ _ _) hb2
    (hcw.mono (fun z e => by subst e; rfl)) (by rw [htq]; exact ownsRow_chg Hr3.out ((Chg.refl (fun z => z = lg) w3).setCell (p := ⟨lg, i, none⟩) (.inl rfl) _) (fun z e => by simp only [Value.ownBlock, Option.some.injEq] at e; omega))
    (by rw [htq]; exact ownsRow_setCell Hla3.out i _ (by omega))
  have hst : Step w own (w3.setCell ⟨lg, i, none⟩ (.slice (some ⟨gp, 0, none⟩) 4096 cp)) own2 := ⟨hcw.mono (fun z e => by subst e; exact Own.blocks_of hlr), fun z hz => (hb2 z hz).imp id (fun e => by omega)⟩
  refine rr_loop _ own2 b (D.more (D.lasting.set i (turn p at' x'))) _ pv hput Hok.out.data Hok.out.no' hn i at' x (by omega) ha hx1 hx2 ?_
  intro u10 u11 u62 u63 u64 u65 u66 u67 u68 u69 u70 u71 u72 u73 u74 u75 u76 u77 u78 u79 u80 u81 u82 u83 u84 u85 u86 u87 u88 u89 u90 u91 u92 u93 u94 u95 u96 u97 u98 u99 u100 u101 u102 u103 u104 u105 u106 u107 u108 w5 h5
  obtain ⟨own5, hF5, hst5⟩ := h5
  have HF5 := Lib.hid hF5
  have Hst5 := Lib.hid (hst.trans hst5)
  clear hF5 hst5 hst hput hcw
  go_wp2_with fail
  go_ret
  have e : D.rotted i at' (UInt8.ofNat x.toNat) = { D.more (D.lasting.set i (turn p at' x')) with pending := (D.more (D.lasting.set i (turn p at' x'))).pending.map (turnQ i at' (UInt8.ofNat x.toNat)) } := by
    unfold DS.rotted DS.more
    rw [List.getD_eq_getElem?_getD, Hp.out, ← Hx'.out]; rfl
  exact ⟨rfl, own5, ⟨_, _, by rw [e]; exact HF5.out⟩, Hst5.out⟩

set_option maxRecDepth 100000 in
theorem rrot_any (w : World) (own : Own) (b : Nat) (D : DS) (h : RefAt w own b D) (hok : D.ok) (hn : D.pending.length ≤ 1000000) (i at' x : Int) :
    Calls Try.prog 47 #[.pointer (some ⟨b, 0, none⟩), .int .i64 i, .int .i64 at', .int .i64 x] w fun e w' => e = .returned (.int .i64 (D.rot i at' x).1) ∧ ∃ own', RefAt w' own' b (D.rot i at' x).2 ∧ Step w own w' own' := by
  have hD := Lib.hid h
  by_cases h1 : i < 0 ∨ (D.lasting.length : Int) ≤ i
  · have he : Hid (D.rot i at' x = (121, D)) := Lib.hid (by unfold DS.rot; rw [if_pos h1])
    obtain ⟨lv, pv, hF⟩ := h
    obtain ⟨c1, _⟩ := hF.fields
    obtain ⟨la, lc, rfl⟩ := hF.last.form
    clear hF hok
    by_cases h0 : i < 0
    · clear h1
      go_enter Try.func47, Try.ntmps47
      go_wp2
      go_ret
      rw [he.out]
      exact ⟨rfl, own, hD.out, Step.refl _ _⟩
    · have h2 := h1.resolve_left h0
      clear h1
      go_enter Try.func47, Try.ntmps47
      go_wp2
      go_ret
      rw [he.out]
      exact ⟨rfl, own, hD.out, Step.refl _ _⟩
  · obtain ⟨n, rfl⟩ : ∃ n : Nat, i = n := ⟨i.toNat, by omega⟩
    have hnl : n < D.lasting.length := by omega
    by_cases h2 : at' < 0 ∨ 4096 ≤ at' ∨ x < 1 ∨ 255 < x
    · have he : Hid (D.rot n at' x = (124, D)) := Lib.hid (by unfold DS.rot; rw [if_neg h1, if_pos h2])
      obtain ⟨lv, pv, hF⟩ := h
      obtain ⟨c1, _⟩ := hF.fields
      obtain ⟨la, lc, rfl⟩ := hF.last.form
      have k1 : ¬ (n : Int) < 0 := by omega
      have k2 : ¬ (D.lasting.length : Int) ≤ (n : Int) := by omega
      clear hF hok h1
      by_cases g1 : at' < 0
      · clear h2
        go_enter Try.func47, Try.ntmps47
        go_wp2
        go_ret
        rw [he.out]
        exact ⟨rfl, own, hD.out, Step.refl _ _⟩
      · by_cases g2 : 4096 ≤ at'
        · clear h2
          go_enter Try.func47, Try.ntmps47
          go_wp2
          go_ret
          rw [he.out]
          exact ⟨rfl, own, hD.out, Step.refl _ _⟩
        · by_cases g3 : x < 1
          · clear h2
            go_enter Try.func47, Try.ntmps47
            go_wp2
            go_ret
            rw [he.out]
            exact ⟨rfl, own, hD.out, Step.refl _ _⟩
          · have g4 : 255 < x := by omega
            clear h2
            go_enter Try.func47, Try.ntmps47
            go_wp2
            go_ret
            rw [he.out]
            exact ⟨rfl, own, hD.out, Step.refl _ _⟩
    · obtain ⟨m, rfl⟩ : ∃ m : Nat, at' = m := ⟨at'.toNat, by omega⟩
      have he : D.rot n m x = (0, D.rotted n m (UInt8.ofNat x.toNat)) := by unfold DS.rot; rw [if_neg h1, if_neg h2]; simp
      rw [he]
      exact rrot_go w own b D h hok hn n m x hnl (by omega) (by omega) (by omega)

end Go.Proofs.Ytckioocahmbhkaa
