/- Walks: Crash. -/
import Derived.Test.YtckioocahmbhkaaGreatDoorW15
import Derived.Outline
namespace Go.Proofs.YtckioocahmbhkaaGreatDoor
open Go Go.RowKit Go.Maps Go.MuLone

/-- A list of fates at the head of a block that is not the disk's. -/
def SeesF (w : World) (own : Own) (v : Value) (fs : List (Int × Int)) : Prop :=
  ∃ a cap, v = .slice a fs.length cap ∧ fs.length ≤ reach ∧ (0 < fs.length → ∃ g, a = some ⟨g, 0, none⟩ ∧ ¬ own.blocks g ∧ ∀ (i : Nat) (f : Int × Int), fs[i]? = some f → w.cell? ⟨g, i * 2, none⟩ = some (.int .i64 f.1) ∧ w.cell? ⟨g, i * 2 + 1, none⟩ = some (.int .i64 f.2))

def tornN (x : Int) : Int := min (max x 0) 4096

def fateL (L : List (List UInt8)) (q : Nat × List UInt8) (f : Int × Int) : List (List UInt8) :=
  if f.1 = 1 then layL L q.1 q.2 4096 else if f.1 = 2 then layL L q.1 q.2 (tornN f.2).toNat else L

def crashAll (L : List (List UInt8)) (qs : List (Nat × List UInt8)) (fs : List (Int × Int)) : List (List UInt8) := (qs.zip fs).foldl (fun L x => fateL L x.1 x.2) L

def DS.crash (D : DS) (fs : List (Int × Int)) : DS := { D with lasting := crashAll D.lasting D.pending fs, pending := [], off := false, fuse := 0 }

theorem zip_take {α β : Type} (qs : List α) (fs : List β) (n : Nat) : (qs.take n).zip fs = (qs.zip fs).take n := by
  induction qs generalizing fs n with
  | nil => simp
  | cons q qs ih =>
    cases n with
    | zero => simp
    | succ n =>
      cases fs with
      | nil => simp
      | cons f fs => simp only [List.take_succ_cons, List.zip_cons_cons]; rw [ih]

theorem crashAll_snoc (L : List (List UInt8)) (qs : List (Nat × List UInt8)) (fs : List (Int × Int)) (k : Nat) (q : Nat × List UInt8) (f : Int × Int) (hq : qs[k]? = some q) (hf : fs[k]? = some f) :
    crashAll L (qs.take (k + 1)) fs = fateL (crashAll L (qs.take k) fs) q f := by
  have hk1 := (List.getElem?_eq_some_iff.1 hq).1
  have hk2 := (List.getElem?_eq_some_iff.1 hf).1
  unfold crashAll
  have e : ∀ n, (qs.take n).zip fs = (qs.zip fs).take n := fun n => zip_take qs fs n
  rw [e, e, List.take_add_one]
  have : (qs.zip fs)[k]? = some (q, f) := by
    rw [List.getElem?_zip_eq_some]; exact ⟨hq, hf⟩
  rw [this]
  simp [List.foldl_append]

theorem crashAll_more (L : List (List UInt8)) (qs : List (Nat × List UInt8)) (fs : List (Int × Int)) (k : Nat) (h : fs.length ≤ k) : crashAll L (qs.take k) fs = crashAll L qs fs := by
  unfold crashAll
  congr 1
  have : ∀ (qs : List (Nat × List UInt8)) (fs : List (Int × Int)) (k : Nat), fs.length ≤ k → (qs.take k).zip fs = qs.zip fs := by
    intro qs
    induction qs with
    | nil => intro fs k _; simp
    | cons q qs ih =>
      intro fs k h
      cases fs with
      | nil => simp
      | cons f fs =>
        cases k with
        | zero => simp at h
        | succ k => simp only [List.take_succ_cons, List.zip_cons_cons]; rw [ih fs k (by simpa using h)]
  exact this qs fs k h

theorem fateL_ok {L : List (List UInt8)} {q : Nat × List UInt8} {f : Int × Int} (hL : ∀ p ∈ L, p.length = 4096) (hl : L.length ≤ 524287) (hq : q.2.length = 4096) (hn : q.1 < 524287) : (∀ p ∈ fateL L q f, p.length = 4096) ∧ (fateL L q f).length ≤ 524287 := by
  unfold fateL
  split
  · exact ⟨layL_page hL hq (by omega), by rw [layL_length]; omega⟩
  · split
    · exact ⟨layL_page hL hq (by unfold tornN; omega), by rw [layL_length]; omega⟩
    · exact ⟨hL, hl⟩

theorem crashAll_ok (L : List (List UInt8)) (qs : List (Nat × List UInt8)) (fs : List (Int × Int)) (hL : ∀ p ∈ L, p.length = 4096) (hl : L.length ≤ 524287) (hq : ∀ q ∈ qs, q.2.length = 4096) (hn : ∀ q ∈ qs, q.1 < 524287) :
    (∀ p ∈ crashAll L qs fs, p.length = 4096) ∧ (crashAll L qs fs).length ≤ 524287 := by
  induction qs generalizing L fs with
  | nil => exact ⟨by simpa [crashAll] using hL, by simpa [crashAll] using hl⟩
  | cons q qs ih =>
    cases fs with
    | nil => exact ⟨by simpa [crashAll] using hL, by simpa [crashAll] using hl⟩
    | cons f fs =>
      obtain ⟨h1, h2⟩ := fateL_ok (f := f) hL hl (hq q (by simp)) (hn q (by simp))
      exact ih (fateL L q f) fs h1 h2 (fun q' h' => hq q' (by simp [h'])) (fun q' h' => hn q' (by simp [h']))

theorem lay_int (w : World) (own : Own) (L : Int) (b : Nat) (D : DS) (sema lv pv : Value) (m : Nat) (h : DiskF w own L b D sema lv pv m) (hpg : ∀ p ∈ D.lasting, p.length = 4096) (no : Nat) (hno : no ≤ 1000000) (hll : D.lasting.length ≤ 1000000)
    (g o cap : Nat) (bs : List UInt8) (hbs : bs.length = 4096) (hcap : 4096 ≤ cap) (hsee : ∀ (j : Nat) (x : UInt8), bs[j]? = some x → w.cell? ⟨g, o + j, none⟩ = some (bV x)) (hg : own g = none ∨ ∃ i, own g = some (.pend i)) (n x : Int) (hn : n = tornN x) :
    Calls Tryz.prog 26 #[.pointer (some ⟨b, 0, none⟩), .int .i64 no, .slice (some ⟨g, o, none⟩) 4096 cap, .int .i64 n] w fun e w' => e = .returned (.tuple #[]) ∧
      ∃ own' lv', DiskF w' own' L b { D with lasting := layL D.lasting no bs (tornN x).toNat } sema lv' pv m ∧ own.le own' ∧ Step w own w' own' ∧ Chg (fun k => k = b ∨ own k = some .larr ∨ ∃ i, own k = some (.page i)) w w' := by
  subst hn
  obtain ⟨k, hk⟩ : ∃ k : Nat, tornN x = k := ⟨(tornN x).toNat, by unfold tornN; omega⟩
  rw [hk, Int.toNat_natCast]
  exact lay_any w own L b D sema lv pv m h hpg no hno hll g o cap bs hbs hcap hsee hg k (by unfold tornN at hk; omega)

theorem notS {own : Own} {x b : Nat} (h : x ≠ b) (hn : own x = none) : ¬ (x = b ∨ own x = some .larr ∨ ∃ i, own x = some (.page i)) := fun e => by
  rcases e with e | e | ⟨i, e⟩
  · exact h e
  · rw [hn] at e; cases e
  · rw [hn] at e; cases e

theorem torn_if (x : Int) : (if (4096 : Int) < (if x < 0 then 0 else x) then 4096 else (if x < 0 then 0 else x)) = tornN x := by
  unfold tornN; split <;> split <;> omega

theorem crash_end {w2 : World} {own1 : Own} {b : Nat} {D : DS} (fs : List (Int × Int)) (h2 : DiskAt w2 own1 1 b { D with lasting := crashAll D.lasting D.pending fs, pending := [] }) :
    ((w2.setCell ⟨b, 6, none⟩ (.bool false)).setCell ⟨b, 7, none⟩ (.int .i64 0)).cell? ⟨b, 0, none⟩ = some (.int .i32 1) ∧
      ((w2.setCell ⟨b, 6, none⟩ (.bool false)).setCell ⟨b, 7, none⟩ (.int .i64 0)).frozen? ⟨b, 0, none⟩ = false ∧
      (∃ v6, w2.cell? ⟨b, 6, none⟩ = some v6) ∧ (∃ v7, w2.cell? ⟨b, 7, none⟩ = some v7) ∧
      DiskAt (((w2.setCell ⟨b, 6, none⟩ (.bool false)).setCell ⟨b, 7, none⟩ (.int .i64 0)).setCell ⟨b, 0, none⟩ (.int .i32 0)) own1 0 b (D.crash fs) := by
  have h3 : DiskAt ((w2.setCell ⟨b, 6, none⟩ (.bool false)).setCell ⟨b, 7, none⟩ (.int .i64 0)) own1 1 b (D.crash fs) :=
    (h2.set (L' := 1) (D' := { D with lasting := crashAll D.lasting D.pending fs, pending := [], off := false }) 6 _ (fun _ _ _ _ => rfl) rfl rfl rfl h2.fuse).set (L' := 1) 7 _ (fun _ _ _ _ => rfl) rfl rfl rfl ⟨by show (0 : Int) ≤ 0; omega, by show (0 : Int) ≤ _; omega⟩
  obtain ⟨hs3, hfz3⟩ := h3.lockCell
  obtain ⟨_, h6, h7, _, _⟩ := h2.cells
  exact ⟨hs3, hfz3 0, ⟨_, h6⟩, ⟨_, h7⟩, h3.lock 1 0⟩

set_option maxRecDepth 100000 in
set_option maxHeartbeats 1600000 in
theorem crash_any (w : World) (own : Own) (b : Nat) (D : DS) (h : DiskAt w own 0 b D) (hok : D.ok) (v : Value) (fs : List (Int × Int)) (hfs : SeesF w own v fs) :
    Calls Tryz.prog 19 #[.pointer (some ⟨b, 0, none⟩), v] w fun e w' => e = .returned (.tuple #[]) ∧ ∃ own', DiskAt w' own' 0 b (D.crash fs) ∧ Step w own w' own' := by
  have h1 := h.lock 0 1
  have Hok := Lib.hid hok
  obtain ⟨hs, hfz⟩ := h.lockCell
  have hstr := h.str
  have Hstr := Lib.hid hstr
  obtain ⟨sema, lv0, pv, m, hF⟩ := h1
  obtain ⟨_, c4, _⟩ := hF.fields
  obtain ⟨vs0, _, ⟨hpa0, _⟩, _⟩ := hF.pend
  obtain ⟨pa, pc, rfl, hpn, hpm, hpg⟩ := ownsRow_slice hpa0
  have HF := Lib.hid hF
  obtain ⟨fa, fc, rfl, hfl, hfg⟩ := hfs
  have Hfg := Lib.hid hfg
  have hst0 : Step w own (w.setCell ⟨b, 0, none⟩ (.int .i32 1)) own := Step.of_b hstr (chg1 (b := b) (o := 0) _)
  clear h hok hpa0 hF hfg hstr
  unfold maxLen at hpm
  have hfl2 : fs.length ≤ 9223372036854775807 := by unfold reach at hfl; omega
  go_enter_defers Tryz.func19, Tryz.ntmps19
  go_wp2_with (go_at_call 21; refine (lock_free Tryz.muLib ⟨b, 0, none⟩ _ hs (hfz 0)).mono ?_; rintro e w' ⟨rfl, rfl⟩)
  go_loopw [18] (fun i wr => ∃ (k : Nat) (own' : Own) (lv' : Value), k ≤ D.pending.length ∧ i = .int .i64 k ∧ DiskF wr own' 1 b { D with lasting := crashAll D.lasting (D.pending.take k) fs } sema lv' (.slice pa D.pending.length pc) m ∧ own.le own' ∧ Step w own wr own')
    (fun i _ => D.pending.length - (intOf i).toNat)
  case atStart => exact ⟨0, own, lv0, Nat.zero_le _, rfl, HF.out, Own.le_refl _, hst0⟩
  case round =>
    obtain ⟨k, own1, lv1, hk, rfl, hF1, hle1, hst1⟩ := hrel
    by_cases hlt : k < D.pending.length
    · obtain ⟨g, rfl⟩ := hpg (by omega)
      obtain ⟨vs, hvl, ⟨hrow, hpo⟩, hpv⟩ := hF1.pend
      change vs.length = D.pending.length at hvl
      change wr.ownsRow 0 78 2 _ D.pending.length (pcells D.pending vs) at hrow
      obtain ⟨q, hq⟩ : ∃ q, D.pending[k]? = some q := ⟨_, List.getElem?_eq_getElem hlt⟩
      obtain ⟨v, hv, gv, cv, rfl, hrole, hbuf⟩ := hpv k q hq
      obtain ⟨e1, e2⟩ := pcells_get D.pending vs k q _ hq hv
      have hlen2 := pcells_length D.pending vs hvl
      have hqm := List.mem_of_getElem? hq
      have hq1 : q.1 < 524287 := Hok.out.no q hqm
      have hql := Hok.out.data q hqm
      have c1 : wr.cell? ⟨g, k * 2, none⟩ = some (.int .i64 q.1) := (hrow.cellAt (k * 2) (by omega)).trans e1
      have c2 : wr.cell? ⟨g, k * 2 + 1, none⟩ = some (.slice (some ⟨gv, 0, none⟩) q.2.length cv) := (hrow.cellAt (k * 2 + 1) (by omega)).trans e2
      have Hq := Lib.hid hq
      have Hrole := Lib.hid hrole
      have Hql := Lib.hid hql
      have HF1 := Lib.hid hF1
      have Hbuf := Lib.hid hbuf
      have Hle1 := Lib.hid hle1
      have Hst1 := Lib.hid hst1
      rw [hql] at c2
      have hpok := Lib.hid (crashAll_ok D.lasting (D.pending.take k) fs Hok.out.page Hok.out.len (fun q hq => Hok.out.data q (List.mem_of_mem_take hq)) (fun q hq => Hok.out.no q (List.mem_of_mem_take hq)))
      clear hrow e1 e2 hlen2 hv hq hrole hql hF1 hbuf hpv hvl hqm hle1 hst1
      by_cases hkf : k < fs.length
      · obtain ⟨gf, rfl, hgf, hcf⟩ := Hfg.out (by omega)
        obtain ⟨f, hf⟩ : ∃ f, fs[k]? = some f := ⟨_, List.getElem?_eq_getElem hkf⟩
        obtain ⟨f1, f2⟩ := hcf k f hf
        have cf1 : wr.cell? ⟨gf, k * 2, none⟩ = some (.int .i64 f.1) := (cell_chg Hst1.out.chg (World.block_lt_of_cell? _ _ f1) hgf).trans f1
        have cf2 : wr.cell? ⟨gf, k * 2 + 1, none⟩ = some (.int .i64 f.2) := (cell_chg Hst1.out.chg (World.block_lt_of_cell? _ _ f2) hgf).trans f2
        have Hf := Lib.hid hf
        have hgfw0 : gf < w.heap.size := World.block_lt_of_cell? _ _ f1
        have hgl : gf < wr.heap.size := World.block_lt_of_cell? _ _ cf1
        have cf1' : ∀ o, (wr.alloc o).cell? ⟨gf, k * 2, none⟩ = some (.int .i64 f.1) := fun o => (World.cell?_alloc_past _ _ _ hgl).trans cf1
        have cf2' : ∀ o, (wr.alloc o).cell? ⟨gf, k * 2 + 1, none⟩ = some (.int .i64 f.2) := fun o => (World.cell?_alloc_past _ _ _ hgl).trans cf2
        have hsee := Lib.hid (row_sees Hbuf.out)
        have hF1a := Lib.hid (HF1.out.chg (wf79 wr #[.int .i64 q.1, .slice (some ⟨gv, 0, none⟩) 4096 cv]) (fun _ _ f => f))
        have hseea : Hid (4096 ≤ cv ∧ ∀ (j : Nat) (x : UInt8), q.2[j]? = some x → (wr.alloc (.cells #[.int .i64 q.1, .slice (some ⟨gv, 0, none⟩) 4096 cv] 78)).cell? ⟨gv, 0 + j, none⟩ = some (bV x)) :=
          Lib.hid ⟨by have := hsee.out.1; rw [Hql.out] at this; exact this, fun j x hx => (cell_chg (wf79 wr _) (World.block_lt_of_cell? _ _ (hsee.out.2 j x hx)) (fun f => f)).trans (hsee.out.2 j x hx)⟩
        have hsta := Lib.hid (Hst1.out.trans (Step.of_none (wf79 wr #[.int .i64 q.1, .slice (some ⟨gv, 0, none⟩) 4096 cv])))
        clear hf hcf f1 f2 cf1 cf2
        by_cases hk1 : f.1 = 1
        · have t1 : (f.1 == 1) = true := by rw [hk1]; rfl
          clear hk1
          go_wp2_with fail
          refine (lay_all _ own1 1 b _ sema lv1 _ m hF1a.out hpok.out.1 q.1 (by omega) (Nat.le_trans hpok.out.2 (by omega)) gv 0 cv q.2 Hql.out hseea.out.1 hseea.out.2 (.inr ⟨k, Hrole.out⟩)).mono ?_
          rintro e w2 ⟨rfl, own2, lv2, hF2, hle2, hst2, _⟩
          have HF2 := Lib.hid hF2
          have Hst2 := Lib.hid hst2
          have Hle2 := Lib.hid hle2
          clear hF2 hst2 hle2
          go_wp2
          go_roundw
          case rel =>
            refine ⟨k + 1, own2, lv2, by omega, by go_num, ?_, Own.le_trans Hle1.out Hle2.out, hsta.out.trans Hst2.out⟩
            rw [crashAll_snoc _ _ _ _ _ _ Hq.out Hf.out, fateL, if_pos (by simpa using t1)]
            exact HF2.out
          case measure => simp [intOf]; omega
        · by_cases hk2 : f.1 = 2
          · have t1 : (f.1 == 1) = false := by rw [hk2]; rfl
            have t2 : (f.1 == 2) = true := by rw [hk2]; rfl
            clear hk1 hk2
            go_wp2_with fail
            obtain ⟨wa, hwa⟩ : ∃ wa, wa = wr.alloc (.cells #[.int .i64 q.1, .slice (some ⟨gv, 0, none⟩) 4096 cv] 78) := ⟨_, rfl⟩
            rw [← hwa]
            have hbk : wa.heap[wr.heap.size]? = some (.cells #[.int .i64 q.1, .slice (some ⟨gv, 0, none⟩) 4096 cv] 78) := by rw [hwa]; exact heap_alloc_new wr _
            have cA : wa.drew.cell? ⟨wr.heap.size, 0, none⟩ = some (.int .i64 q.1) := by
              show wa.cell? _ = _
              simp [World.cell?, hbk]
            have cB : wa.drew.cell? ⟨wr.heap.size, 1, none⟩ = some (.slice (some ⟨gv, 0, none⟩) 4096 cv) := by
              show wa.cell? _ = _
              simp [World.cell?, hbk]
            have cC : wa.drew.cell? ⟨gf, k * 2 + 1, none⟩ = some (.int .i64 f.2) := by
              show wa.cell? _ = _
              rw [hwa]; exact cf2' _
            have hHl : wr.heap.size < wa.drew.heap.size := heap_lt hbk
            have hgfl : gf < wa.drew.heap.size := Nat.lt_trans hgl hHl
            have Fa := Lib.hid (HF1.out.chg (((Chg.refl (fun _ => False) wr).alloc (.cells #[.int .i64 q.1, .slice (some ⟨gv, 0, none⟩) 4096 cv] 78)).drew) (fun _ _ f => f))
            rw [← hwa] at Fa
            have hseed : Hid (4096 ≤ cv ∧ ∀ (j : Nat) (x : UInt8), q.2[j]? = some x → wa.drew.cell? ⟨gv, 0 + j, none⟩ = some (bV x)) := by rw [hwa]; exact hseea
            have hstd : Hid (Step w own wa.drew own1) := by rw [hwa]; exact Lib.hid (Hst1.out.trans (Step.of_none ((wf79 wr _).drew)))
            have hHnew : own1 wr.heap.size = none := by
              cases e : own1 wr.heap.size with
              | none => rfl
              | some r => exact absurd (HF1.out.lt _ (Own.blocks_of e)) (Nat.lt_irrefl _)
            have hgfn : own1 gf = none ∨ w.heap.size ≤ gf := by
              cases e : own1 gf with
              | none => exact .inl rfl
              | some r => exact .inr ((role_back Hle1.out Hst1.out e).elim (fun e => absurd (Own.blocks_of e) hgf) id)
            have hgfw : gf < w.heap.size := hgfw0
            have hgfn' : own1 gf = none := hgfn.elim id (fun e => absurd hgfw (by omega))
            have hHb : wr.heap.size ≠ b := fun e => by have := HF1.out.lt b (Own.blocks_of HF1.out.str); omega
            have hgb : gf ≠ b := fun e => by subst e; have := HF1.out.str; rw [hgfn'] at this; cases this
            have CA := Lib.hid cA
            have CB := Lib.hid cB
            have CC := Lib.hid cC
            have HHl := Lib.hid hHl
            have Hgfl := Lib.hid hgfl
            have HHn := Lib.hid hHnew
            have Hgn := Lib.hid hgfn'
            clear hwa hbk hHl hgfl cA cB cC hgfn hHnew hgfn'
            rcases (by omega : f.2 < 0 ∨ (0 ≤ f.2 ∧ f.2 ≤ 4096) ∨ 4096 < f.2) with hx | ⟨hx, hx'⟩ | hx
            all_goals
              go_region_held3 (fun w' => w'.cell? ⟨wr.heap.size, 0, none⟩ = some (.int .i64 q.1) ∧ w'.cell? ⟨wr.heap.size, 1, none⟩ = some (.slice (some ⟨gv, 0, none⟩) 4096 cv) ∧ w'.cell? ⟨gf, k * 2 + 1, none⟩ = some (.int .i64 f.2))
                (first
                  | exact ⟨CA.out, CB.out, CC.out⟩
                  | exact ⟨cA2, cB2, cC2⟩
                  | go_keep)
                (first
                  | (go_simp; go_at_call 26; refine (lay_int wa.drew own1 1 b _ sema lv1 _ m Fa.out hpok.out.1 q.1 (by omega) (Nat.le_trans hpok.out.2 (by omega)) gv 0 cv q.2 Hql.out hseed.out.1 hseed.out.2 (.inr ⟨k, Hrole.out⟩) _ f.2 (by unfold tornN; omega)).mono ?_; rintro e w2 ⟨rfl, own2, lv2, hF2, hle2, hst2, hch2⟩; have cA2 : w2.cell? ⟨wr.heap.size, 0, none⟩ = some (.int .i64 q.1) := (cell_chg hch2 HHl.out (notS hHb HHn.out)).trans CA.out; have cB2 : w2.cell? ⟨wr.heap.size, 1, none⟩ = some (.slice (some ⟨gv, 0, none⟩) 4096 cv) := (cell_chg hch2 HHl.out (notS hHb HHn.out)).trans CB.out; have cC2 : w2.cell? ⟨gf, k * 2 + 1, none⟩ = some (.int .i64 f.2) := (cell_chg hch2 Hgfl.out (notS hgb Hgn.out)).trans CC.out; have HF2 := Lib.hid hF2; have Hst2 := Lib.hid hst2; have Hle2 := Lib.hid hle2; clear hF2 hst2 hle2 hch2))
              go_wp2
              go_roundw
              case rel =>
                refine ⟨k + 1, own2, lv2, by omega, by go_num, ?_, Own.le_trans Hle1.out Hle2.out, hstd.out.trans Hst2.out⟩
                rw [crashAll_snoc _ _ _ _ _ _ Hq.out Hf.out, fateL, if_neg (by simpa using t1), if_pos (by simpa using t2)]
                exact HF2.out
              case measure => simp [intOf]; omega
          · have t1 : (f.1 == 1) = false := by simpa using hk1
            have t2 : (f.1 == 2) = false := by simpa using hk2
            clear hk1 hk2
            go_wp2
            go_roundw
            case rel =>
              refine ⟨k + 1, own1, lv1, by omega, by go_num, ?_, Hle1.out, hsta.out⟩
              rw [crashAll_snoc _ _ _ _ _ _ Hq.out Hf.out, fateL, if_neg (by simpa using t1), if_neg (by simpa using t2)]
              exact hF1a.out
            case measure => simp [intOf]; omega
      · go_wp2_with fail
        have hF1a := HF1.out.chg (wf79 wr #[.int .i64 q.1, .slice (some ⟨gv, 0, none⟩) 4096 cv]) (fun _ _ f => f)
        refine (rest_any _ own1 1 b _ sema lv1 _ m hF1a Hok.out.no').mono ?_
        rintro e w2 ⟨rfl, hF2, hc3⟩
        have h2 : DiskAt w2 own1 1 b { D with lasting := crashAll D.lasting D.pending fs, pending := [] } := by
          have := hF2
          rw [crashAll_more _ _ _ _ (by omega)] at this
          exact ⟨sema, lv1, _, m, this⟩
        have hst2 : Step w own w2 own1 := by
          refine (Hst1.out.trans (Step.of_none (wf79 wr _))).trans ⟨hc3.mono (fun x e => ?_), fun _ h => .inl h⟩
          rcases e with e | e
          · subst e; exact Own.blocks_of HF1.out.str
          · subst e; exact Own.blocks_of HF1.out.now.1
        obtain ⟨hs3, hfz3, ⟨v6, e1⟩, ⟨v7, e2⟩, H3⟩ := crash_end fs h2
        have hfz2 := h2.lockCell.2
        have fz6 := hfz2 6
        have fz7 := hfz2 7
        clear hfz2
        have Hst2 := Lib.hid hst2
        have Hstr2 := Lib.hid h2.str
        clear hF1a hF2 h2 hst2 hc3
        go_wp2
        refine leaves_cons (f := 22) (args := #[.pointer (some ⟨b, 0, none⟩)]) (by simp) (by simp [go_sem]) ?_
        refine (unlock_deferred Tryz.muLib ⟨b, 0, none⟩ .returning _ hs3 hfz3).mono ?_
        rintro e u' w'' ⟨rfl, rfl, rfl⟩
        exact ⟨_, results_none rfl _ _ _, rfl, own1, H3, Hst2.out.trans (Step.of_b Hstr2.out (chgS (chgS (chg1 _) _ _) _ _))⟩
    · have hk2 : k = D.pending.length := by omega
      subst hk2
      have HF1 := Lib.hid hF1
      have Hst1 := Lib.hid hst1
      clear hF1 hst1
      go_wp2_with fail
      refine (rest_any _ own1 1 b _ sema lv1 _ m HF1.out Hok.out.no').mono ?_
      rintro e w2 ⟨rfl, hF2, hc3⟩
      have h2 : DiskAt w2 own1 1 b { D with lasting := crashAll D.lasting D.pending fs, pending := [] } := by
        have := hF2
        rw [List.take_length] at this
        exact ⟨sema, lv1, _, m, this⟩
      have hst2 : Step w own w2 own1 := by
        refine Hst1.out.trans ⟨hc3.mono (fun x e => ?_), fun _ h => .inl h⟩
        rcases e with e | e
        · subst e; exact Own.blocks_of HF1.out.str
        · subst e; exact Own.blocks_of HF1.out.now.1
      obtain ⟨hs3, hfz3, ⟨v6, e1⟩, ⟨v7, e2⟩, H3⟩ := crash_end fs h2
      have hfz2 := h2.lockCell.2
      have fz6 := hfz2 6
      have fz7 := hfz2 7
      clear hfz2
      have Hst2 := Lib.hid hst2
      have Hstr2 := Lib.hid h2.str
      clear hF2 h2 hst2 hc3
      go_wp2
      refine leaves_cons (f := 22) (args := #[.pointer (some ⟨b, 0, none⟩)]) (by simp) (by simp [go_sem]) ?_
      refine (unlock_deferred Tryz.muLib ⟨b, 0, none⟩ .returning _ hs3 hfz3).mono ?_
      rintro e u' w'' ⟨rfl, rfl, rfl⟩
      exact ⟨_, results_none rfl _ _ _, rfl, own1, H3, Hst2.out.trans (Step.of_b Hstr2.out (chgS (chgS (chg1 _) _ _) _ _))⟩

end Go.Proofs.YtckioocahmbhkaaGreatDoor
