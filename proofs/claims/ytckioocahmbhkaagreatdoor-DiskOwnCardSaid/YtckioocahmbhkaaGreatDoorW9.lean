/- Walks: Sync. -/
import Derived.Test.YtckioocahmbhkaaGreatDoorW8
import Derived.Outline
namespace Go.Proofs.YtckioocahmbhkaaGreatDoor
open Go Go.RowKit Go.Maps Go.MuLone

/-- Every page is whole, every number is small. -/
structure DS.ok (D : DS) : Prop where
  page : ∀ p ∈ D.lasting, p.length = 4096
  data : ∀ q ∈ D.pending, q.2.length = 4096
  no : ∀ q ∈ D.pending, q.1 < 524287
  len : D.lasting.length ≤ 524287

theorem DS.ok.no' {D : DS} (h : D.ok) : ∀ q ∈ D.pending, q.1 ≤ 1000000 := fun q hq => by have := h.no q hq; omega
theorem DS.ok.len' {D : DS} (h : D.ok) : D.lasting.length ≤ 1000000 := by have := h.len; omega

theorem layL_length (L : List (List UInt8)) (no : Nat) (p : List UInt8) (n : Nat) : (layL L no p n).length = max L.length (no + 1) := by
  unfold layL
  rw [List.length_set, List.length_append, rep_length]; omega

theorem layL_page {L : List (List UInt8)} {no : Nat} {p : List UInt8} {n : Nat} (hL : ∀ p ∈ L, p.length = 4096) (hp : p.length = 4096) (hn : n ≤ 4096) : ∀ x ∈ layL L no p n, x.length = 4096 := by
  have hz : ∀ x ∈ L ++ rep (no + 1 - L.length) zpage, x.length = 4096 := fun x hx => by
    rcases List.mem_append.1 hx with e | e
    · exact hL _ e
    · simp only [rep, List.mem_replicate] at e; rw [e.2, zpage_length]
  intro x hx
  unfold layL at hx
  rcases List.mem_or_eq_of_mem_set hx with e | e
  · exact hz x e
  · subst e
    have hlt : no < (L ++ rep (no + 1 - L.length) zpage).length := by rw [List.length_append, rep_length]; omega
    rw [List.getD_eq_getElem?_getD, List.getElem?_eq_getElem hlt, List.length_append, List.length_take, List.length_drop, Option.getD_some, hz _ (List.getElem_mem hlt)]
    omega

def layAll (L : List (List UInt8)) (qs : List (Nat × List UInt8)) : List (List UInt8) := qs.foldl (fun L q => layL L q.1 q.2 4096) L

theorem layAll_snoc (L : List (List UInt8)) (qs : List (Nat × List UInt8)) (k : Nat) (q : Nat × List UInt8) (h : qs[k]? = some q) : layAll L (qs.take (k + 1)) = layL (layAll L (qs.take k)) q.1 q.2 4096 := by
  rw [List.take_add_one, h]
  simp [layAll, List.foldl_append]

theorem layAll_ok (L : List (List UInt8)) (qs : List (Nat × List UInt8)) (hL : ∀ p ∈ L, p.length = 4096) (hl : L.length ≤ 524287) (hq : ∀ q ∈ qs, q.2.length = 4096) (hn : ∀ q ∈ qs, q.1 < 524287) :
    (∀ p ∈ layAll L qs, p.length = 4096) ∧ (layAll L qs).length ≤ 524287 := by
  induction qs generalizing L with
  | nil => exact ⟨hL, hl⟩
  | cons q qs ih =>
    refine ih (layL L q.1 q.2 4096) (layL_page hL (hq q (by simp)) (by omega)) ?_ (fun q' h' => hq q' (by simp [h'])) (fun q' h' => hn q' (by simp [h']))
    rw [layL_length]; have := hn q (by simp); omega

def DS.sync (D : DS) : Int × DS :=
  if D.off then (123, D) else if D.count.off then (123, D.count) else (0, { D.count with lasting := layAll D.lasting D.pending, pending := [] })

theorem lay_all (w : World) (own : Own) (L : Int) (b : Nat) (D : DS) (sema lv pv : Value) (m : Nat) (h : DiskF w own L b D sema lv pv m) (hpg : ∀ p ∈ D.lasting, p.length = 4096) (no : Nat) (hno : no ≤ 1000000) (hll : D.lasting.length ≤ 1000000)
    (g o cap : Nat) (bs : List UInt8) (hbs : bs.length = 4096) (hcap : 4096 ≤ cap) (hsee : ∀ (j : Nat) (x : UInt8), bs[j]? = some x → w.cell? ⟨g, o + j, none⟩ = some (bV x)) (hg : own g = none ∨ ∃ i, own g = some (.pend i)) :
    Calls Tryz.prog 26 #[.pointer (some ⟨b, 0, none⟩), .int .i64 no, .slice (some ⟨g, o, none⟩) 4096 cap, .int .i64 4096] w fun e w' => e = .returned (.tuple #[]) ∧
      ∃ own' lv', DiskF w' own' L b { D with lasting := layL D.lasting no bs 4096 } sema lv' pv m ∧ own.le own' ∧ Step w own w' own' ∧ Chg (fun k => k = b ∨ own k = some .larr ∨ ∃ i, own k = some (.page i)) w w' :=
  lay_any w own L b D sema lv pv m h hpg no hno hll g o cap bs hbs hcap hsee hg 4096 (by omega)

/-- What a page's row shows. -/
theorem row_sees {w : World} {g n cap : Nat} {bs : List UInt8} (h : w.ownsRow 0 5 1 (.slice (some ⟨g, 0, none⟩) n cap) n (bVs bs)) : n ≤ cap ∧ ∀ (j : Nat) (x : UInt8), bs[j]? = some x → w.cell? ⟨g, 0 + j, none⟩ = some (bV x) := by
  refine ⟨?_, fun j x hx => ?_⟩
  · rcases h.2 with ⟨h0, _⟩ | ⟨g', cap', cur, h0, _, _, hn, _⟩
    · cases h0
    · cases h0; exact hn
  · have hl := h.1
    rw [bVs_length] at hl
    have hj := (List.getElem?_eq_some_iff.1 hx).1
    rw [Nat.zero_add, h.cellAt j (by omega)]
    simp [bVs, hx]

theorem wf79 (w : World) (cs : Array Value) : Chg (fun _ => False) w (w.alloc (.cells cs 78)) := (Chg.refl _ w).alloc _

set_option maxRecDepth 100000 in
set_option maxHeartbeats 800000 in
theorem sync_go (w : World) (own : Own) (b : Nat) (D : DS) (h : DiskAt w own 0 b D) (hok : D.ok) (hoff : D.off = false) (hc : D.count.off = false) :
    Calls Tryz.prog 8 #[.pointer (some ⟨b, 0, none⟩)] w fun e w' => e = .returned (.int .i64 0) ∧ ∃ own', DiskAt w' own' 0 b { D.count with lasting := layAll D.lasting D.pending, pending := [] } ∧ Step w own w' own' := by
  have h1 := h.lock 0 1
  have hD1 := Lib.hid h1
  have Hok := Lib.hid hok
  obtain ⟨hs, hfz⟩ := h.lockCell
  obtain ⟨_, h6, _, _, _⟩ := h1.cells
  have hstr := h.str
  have Hstr := Lib.hid hstr
  rw [hoff] at h6
  have Hc := Lib.hid hc
  clear h h1 hok hoff hc hstr
  go_enter_defers Tryz.func8, Tryz.ntmps8
  go_wp2_with (go_at_call 21; refine (lock_free Tryz.muLib ⟨b, 0, none⟩ _ hs (hfz 0)).mono ?_; rintro e w' ⟨rfl, rfl⟩)
  refine (count_any _ own 1 b D hD1.out).mono ?_
  rw [Hc.out]
  rintro e w1 ⟨rfl, hD2, hc2⟩
  obtain ⟨sema, lv0, pv, m, hF⟩ := hD2
  obtain ⟨_, c4, _⟩ := hF.fields
  obtain ⟨vs0, _, ⟨hpa0, _⟩, _⟩ := hF.pend
  obtain ⟨pa, pc, rfl, hpn, hpm, hpg⟩ := ownsRow_slice hpa0
  have HF := Lib.hid hF
  have hst0 : Step w own w1 own := Step.of_b Hstr.out ((chg1 (b := b) (o := 0) _).trans hc2 (fun x e => .inl e))
  clear hpa0 hF
  change w1.cell? ⟨b, 4, none⟩ = some (.slice pa D.pending.length pc) at c4
  change D.pending.length ≤ pc at hpn
  change 0 < D.pending.length → _ at hpg
  unfold maxLen at hpm
  go_wp2
  go_loopw [26] (fun i wr => ∃ (k : Nat) (own' : Own) (lv' : Value), k ≤ D.pending.length ∧ i = .int .i64 k ∧ DiskF wr own' 1 b { D.count with lasting := layAll D.lasting (D.pending.take k) } sema lv' (.slice pa D.pending.length pc) m ∧ Step w own wr own')
    (fun i _ => D.pending.length - (intOf i).toNat)
  case atStart => exact ⟨0, own, lv0, Nat.zero_le _, rfl, HF.out, hst0⟩
  case round =>
    obtain ⟨k, own1, lv1, hk, rfl, hF1, hst1⟩ := hrel
    by_cases hlt : k < D.pending.length
    · obtain ⟨g, rfl⟩ := hpg (by omega)
      obtain ⟨vs, hvl, ⟨hrow, hpo⟩, hpv⟩ := hF1.pend
      change vs.length = D.pending.length at hvl
      change wr.ownsRow 0 78 2 _ D.pending.length (pcells D.pending vs) at hrow
      obtain ⟨q, hq⟩ : ∃ q, D.pending[k]? = some q := ⟨_, List.getElem?_eq_getElem hlt⟩
      obtain ⟨v, hv, gv, cv, rfl, hrole, hbuf⟩ := hpv k q hq
      obtain ⟨e1, e2⟩ := pcells_get D.pending vs k q _ hq hv
      have hlen2 := pcells_length D.pending vs hvl
      have hqm := List.mem_of_getElem? hq
      have hq1 : q.1 < 524287 := Hok.out.no q hqm
      have hql := Hok.out.data q hqm
      have c1 : wr.cell? ⟨g, k * 2, none⟩ = some (.int .i64 q.1) := (hrow.cellAt (k * 2) (by omega)).trans e1
      have c2 : wr.cell? ⟨g, k * 2 + 1, none⟩ = some (.slice (some ⟨gv, 0, none⟩) q.2.length cv) := (hrow.cellAt (k * 2 + 1) (by omega)).trans e2
      have Hq := Lib.hid hq
      have Hrole := Lib.hid hrole
      have Hql := Lib.hid hql
      have HF1 := Lib.hid hF1
      have Hbuf := Lib.hid hbuf
      rw [hql] at c2
      clear hrow e1 e2 hlen2 hv hq hrole hql hF1 hbuf hpv hvl hqm
      go_wp2_with fail
      have hpok := layAll_ok D.lasting (D.pending.take k) Hok.out.page Hok.out.len (fun q hq => Hok.out.data q (List.mem_of_mem_take hq)) (fun q hq => Hok.out.no q (List.mem_of_mem_take hq))
      have hsee := row_sees Hbuf.out
      rw [Hql.out] at hsee
      refine (lay_all _ own1 1 b _ sema lv1 _ m (HF1.out.chg (wf79 wr _) (fun _ _ f => f)) hpok.1 q.1 (by omega) (Nat.le_trans hpok.2 (by omega)) gv 0 cv q.2 Hql.out hsee.1 (fun j x hx => (cell_chg (wf79 wr _) (World.block_lt_of_cell? _ _ (hsee.2 j x hx)) (fun f => f)).trans (hsee.2 j x hx)) (.inr ⟨k, Hrole.out⟩)).mono ?_
      rintro e w2 ⟨rfl, own2, lv2, hF2, hle2, hst2, _⟩
      have HF2 := Lib.hid hF2
      have Hst2 := Lib.hid hst2
      clear hpok hsee hF2 hst2
      go_wp2
      go_roundw
      case rel =>
        refine ⟨k + 1, own2, lv2, by omega, by go_num, ?_, (hst1.trans (Step.of_none (wf79 wr _))).trans Hst2.out⟩
        rw [layAll_snoc _ _ _ _ Hq.out]
        exact HF2.out
      case measure => simp [intOf]; omega
    · have hk2 : k = D.pending.length := by omega
      subst hk2
      have HF1 := Lib.hid hF1
      clear hF1
      go_wp2_with fail
      refine (rest_any _ own1 1 b _ sema lv1 _ m HF1.out Hok.out.no').mono ?_
      rintro e w2 ⟨rfl, hF2, hc3⟩
      have HF2 := Lib.hid hF2
      have h2 : DiskAt w2 own1 1 b { D.count with lasting := layAll D.lasting D.pending, pending := [] } := by
        have := HF2.out
        rw [List.take_length] at this
        exact ⟨sema, lv1, _, m, this⟩
      obtain ⟨hs2, hfz2⟩ := h2.lockCell
      have H2 := Lib.hid h2
      have hst2 : Step w own w2 own1 := by
        refine hst1.trans ⟨hc3.mono (fun x e => ?_), fun _ h => .inl h⟩
        rcases e with e | e
        · subst e; exact Own.blocks_of HF1.out.str
        · subst e; exact Own.blocks_of HF1.out.now.1
      clear hF2 h2
      go_wp2
      refine leaves_cons (f := 22) (args := #[.pointer (some ⟨b, 0, none⟩)]) (by simp) (by simp [go_sem]) ?_
      refine (unlock_deferred Tryz.muLib ⟨b, 0, none⟩ .returning _ hs2 (hfz2 0)).mono ?_
      rintro e u' w'' ⟨rfl, rfl, rfl⟩
      exact ⟨_, results_tmp rfl _ _ _, rfl, own1, H2.out.lock 1 0, hst2.trans (Step.of_b H2.out.str (chg1 _))⟩

theorem sync_off (w : World) (own : Own) (b : Nat) (D : DS) (h : DiskAt w own 0 b D) (hoff : D.off = true) :
    Calls Tryz.prog 8 #[.pointer (some ⟨b, 0, none⟩)] w fun e w' => e = .returned (.int .i64 123) ∧ DiskAt w' own 0 b D ∧ Chg (fun x => x = b) w w' := by
  have h1 := h.lock 0 1
  have hD1 := Lib.hid h1
  obtain ⟨hs, hfz⟩ := h.lockCell
  obtain ⟨_, h6, _, _, _⟩ := h1.cells
  obtain ⟨hs1, hfz1⟩ := h1.lockCell
  rw [hoff] at h6
  clear h h1 hoff
  go_enter_defers Tryz.func8, Tryz.ntmps8
  go_wp2_with (go_at_call 21; refine (lock_free Tryz.muLib ⟨b, 0, none⟩ _ hs (hfz 0)).mono ?_; rintro e w' ⟨rfl, rfl⟩)
  refine leaves_cons (f := 22) (args := #[.pointer (some ⟨b, 0, none⟩)]) (by simp) (by simp [go_sem]) ?_
  refine (unlock_deferred Tryz.muLib ⟨b, 0, none⟩ .returning _ hs1 (hfz1 0)).mono ?_
  rintro e u' w'' ⟨rfl, rfl, rfl⟩
  exact ⟨_, results_tmp rfl _ _ _, rfl, unlocks hD1.out (chg1 _)⟩

theorem sync_dies (w : World) (own : Own) (b : Nat) (D : DS) (h : DiskAt w own 0 b D) (hoff : D.off = false) (hc : D.count.off = true) :
    Calls Tryz.prog 8 #[.pointer (some ⟨b, 0, none⟩)] w fun e w' => e = .returned (.int .i64 123) ∧ DiskAt w' own 0 b D.count ∧ Chg (fun x => x = b) w w' := by
  have h1 := h.lock 0 1
  have hD1 := Lib.hid h1
  obtain ⟨hs, hfz⟩ := h.lockCell
  obtain ⟨_, h6, _, _, _⟩ := h1.cells
  rw [hoff] at h6
  have Hc := Lib.hid hc
  clear h h1 hoff hc
  go_enter_defers Tryz.func8, Tryz.ntmps8
  go_wp2_with (go_at_call 21; refine (lock_free Tryz.muLib ⟨b, 0, none⟩ _ hs (hfz 0)).mono ?_; rintro e w' ⟨rfl, rfl⟩)
  refine (count_any _ own 1 b D hD1.out).mono ?_
  rw [Hc.out]
  rintro e w1 ⟨rfl, hD2, hc2⟩
  obtain ⟨hs2, hfz2⟩ := hD2.lockCell
  have HD2 := Lib.hid hD2
  clear hD2
  go_wp2
  refine leaves_cons (f := 22) (args := #[.pointer (some ⟨b, 0, none⟩)]) (by simp) (by simp [go_sem]) ?_
  refine (unlock_deferred Tryz.muLib ⟨b, 0, none⟩ .returning _ hs2 (hfz2 0)).mono ?_
  rintro e u' w'' ⟨rfl, rfl, rfl⟩
  exact ⟨_, results_tmp rfl _ _ _, rfl, unlocks HD2.out ((chg1 (b := b) (o := 0) _).trans hc2 (fun x e => .inl e))⟩

theorem sync_any (w : World) (own : Own) (b : Nat) (D : DS) (h : DiskAt w own 0 b D) (hok : D.ok) :
    Calls Tryz.prog 8 #[.pointer (some ⟨b, 0, none⟩)] w fun e w' => e = .returned (.int .i64 D.sync.1) ∧ ∃ own', DiskAt w' own' 0 b D.sync.2 ∧ Step w own w' own' := by
  cases hoff : D.off with
  | true =>
    refine (sync_off w own b D h hoff).mono ?_
    rintro e w' ⟨rfl, h1, h2⟩
    rw [show D.sync = (123, D) by simp [DS.sync, hoff]]
    exact ⟨rfl, own, h1, Step.of_b h.str h2⟩
  | false =>
    cases hc : D.count.off with
    | true =>
      refine (sync_dies w own b D h hoff hc).mono ?_
      rintro e w' ⟨rfl, h1, h2⟩
      rw [show D.sync = (123, D.count) by simp [DS.sync, hoff, hc]]
      exact ⟨rfl, own, h1, Step.of_b h.str h2⟩
    | false =>
      refine (sync_go w own b D h hok hoff hc).mono ?_
      rintro e w' ⟨rfl, own', h1, h2⟩
      rw [show D.sync = (0, { D.count with lasting := layAll D.lasting D.pending, pending := [] }) by simp [DS.sync, hoff, hc]]
      exact ⟨rfl, own', h1, h2⟩

end Go.Proofs.YtckioocahmbhkaaGreatDoor
