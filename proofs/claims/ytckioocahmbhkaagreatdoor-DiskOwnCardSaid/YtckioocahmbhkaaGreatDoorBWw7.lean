/- Walk: a list of writes is kept, and all its lists. -/
import Derived.Test.YtckioocahmbhkaaGreatDoorBWw6
import Derived.Test.YtckioocahmbhkaaGreatDoorWR
namespace Go.Proofs.YtckioocahmbhkaaGreatDoor
open Go Go.RowKit Go.Maps

theorem setF_23 (F : Nat → Value) (a b c d : Value) : setF (setF (setF (setF F 2 a) 3 b) 2 c) 3 d = setF (setF F 2 c) 3 d := by
  funext j; unfold setF
  by_cases h3 : j = 3
  · simp [h3]
  · by_cases h2 : j = 2
    · simp [h2]
    · simp [h2, h3]
def flatB (qs : List (Nat × List UInt8)) : List (List UInt8) := qs.map (·.2)
theorem flatB_snoc (qs : List (Nat × List UInt8)) (q : Nat × List UInt8) : flatB (qs ++ [q]) = flatB qs ++ [q.2] := by simp [flatB]
theorem take_snocP {α : Type} {l : List α} {i : Nat} {x : α} (h : l[i]? = some x) : l.take (i + 1) = l.take i ++ [x] := by
  rw [List.take_add_one, h]; rfl
theorem flatB_length (qs : List (Nat × List UInt8)) : (flatB qs).length = qs.length := by simp [flatB]
/-- The blocks of the first i writes. -/
def Bls (vs : List Value) (i : Nat) (g : Nat) : Prop := ∃ (j : Nat) (x : Value), j < i ∧ vs[j]? = some x ∧ x.ownBlock = some g
def R3 (r : Nat × Nat) : Prop := r = (1, 2) ∨ r = (1, 3) ∨ r = (0, 0)
theorem KB.iff {R : Nat × Nat → Prop} {w w' : World} {own own' : BOwn} {D D' : Nat → Prop} (h : KB R w own w' own' D) (hd : ∀ g, D g ↔ D' g) : KB R w own w' own' D' :=
  ⟨h.chg, h.keep, fun g r e => (h.new g r e).imp id (fun k => k.imp id (fun k => ⟨k.1, (hd g).1 k.2⟩)), fun g e => h.has g ((hd g).2 e)⟩
theorem KB.chg0 {R : Nat × Nat → Prop} {w w1 w2 : World} {own own1 : BOwn} {D : Nat → Prop} (h : KB R w own w1 own1 D) (hc : Chg (fun _ => False) w1 w2) : KB R w own w2 own1 D :=
  ⟨h.chg.trans hc (fun _ f => f.elim), h.keep, h.new, h.has⟩
/-- The state in the loop. -/
def PKeeping (w : World) (own : BOwn) (b : Nat) (F : Nat → Value) (xsb wsb : List (Value × Nat)) (ccb : List (List UInt8)) (vs : List Value) (ps : List (Nat × List UInt8)) (i : Nat) (w' : World) : Prop :=
  ∃ (own' : BOwn) (rv wv : Value) (xs' ws' : List (Value × Nat)), BookF 39 w' own' b (setF (setF F 2 rv) 3 wv) ∧ bytesKept w' own' rv wv xs' ws' (ccb ++ flatB (ps.take i)) ∧ KB R3 w own w' own' (Bls vs i)
/-- One list of bytes is kept. -/
theorem keep_one {w w1 : World} {own own1 : BOwn} {b : Nat} {F : Nat → Value} {rv wv : Value} {xs ws : List (Value × Nat)} {cc : List (List UInt8)} {D : Nat → Prop} (hb : BookF 39 w1 own1 b (setF (setF F 2 rv) 3 wv)) (hk : bytesKept w1 own1 rv wv xs ws cc) (hK : KB R3 w own w1 own1 D) (hn : cc.length ≤ 1000000)
    (a : Option Addr) (cap : Nat) (bs : List UInt8) (hl : bs.length ≤ 16777216) (hr : w.ownsRow 0 5 1 (.slice a bs.length cap) bs.length (bVs bs)) (hu : ∀ g, (Value.slice a bs.length cap).ownBlock = some g → own g = none ∧ ¬ D g) :
    Calls Tryz.prog 10 #[.pointer (some ⟨b, 0, none⟩), .slice a bs.length cap] w1 fun e w' => e = .returned (.tuple #[]) ∧ ∃ (own' : BOwn) (rv' wv' : Value) (xs' ws' : List (Value × Nat)), BookF 39 w' own' b (setF (setF F 2 rv') 3 wv') ∧ bytesKept w' own' rv' wv' xs' ws' (cc ++ [bs]) ∧ KB R3 w own w' own' (fun g => D g ∨ (Value.slice a bs.length cap).ownBlock = some g) := by
  have hlt : ∀ g, (Value.slice a bs.length cap).ownBlock = some g → g < w.heap.size := fun g e => by
    rcases own_form hr with ⟨e2, _⟩ | ⟨g2, c2, cs2, e2, _, hh⟩
    · rw [e2] at e; simp [Value.ownBlock] at e
    · rw [e2] at e; simp only [Value.ownBlock, Option.some.injEq] at e; rw [← e]; exact heap_lt hh
  refine (byteskeep_any w1 own1 b _ hb rv wv xs ws cc (by rw [setF_other (by decide), setF_same]) (setF_same _ _ _) hk hn a cap bs hl (hK.row hr (fun g e => (hu g e).1)) (fun g e => hK.free (hu g e).1 (hlt g e) (hu g e).2)).mono ?_
  rintro e w2 ⟨rfl, own2, rv2, wv2, u, hb2, hk2, hS⟩
  have hm : Mine own2 (2, cc.length) (.slice a bs.length cap) := by
    have h := hk2.lists cc.length (.slice a bs.length cap, bs.length) bs (by rw [List.getElem?_append_right (by rw [hk.lx]; exact Nat.le_refl _), hk.lx]; simp) (by rw [List.getElem?_append_right (Nat.le_refl _)]; simp)
    exact h.2.2
  refine ⟨rfl, own2, rv2, wv2, _, _, by rw [setF_23] at hb2; exact hb2, hk2, hK.one hS hm (by omega) (fun r hr => ⟨hr, by rcases hr with e | e | e <;> rw [e] <;> decide⟩)⟩

/-- A list of writes that is handed to the book: all of it nobody's, no block twice. -/
structure FreshW (w : World) (own : BOwn) (v : Value) (vs : List Value) (ps : List (Nat × List UInt8)) : Prop where
  len : vs.length = ps.length
  row : w.ownsRow 0 78 2 v ps.length (pcells ps vs)
  free : ∀ g, v.ownBlock = some g → own g = none
  bytes : ∀ (j : Nat) x p, vs[j]? = some x → ps[j]? = some p → w.ownsRow 0 5 1 x p.2.length (bVs p.2) ∧ ∀ g, x.ownBlock = some g → own g = none
  apart : ∀ (i j : Nat) x y, i < j → vs[i]? = some x → vs[j]? = some y → ∀ g, x.ownBlock = some g → y.ownBlock ≠ some g
theorem FreshW.lt {w : World} {own : BOwn} {v : Value} {vs : List Value} {ps : List (Nat × List UInt8)} (h : FreshW w own v vs ps) : (∀ g, v.ownBlock = some g → g < w.heap.size) ∧ ∀ i g, Bls vs i g → g < w.heap.size := by
  refine ⟨fun g e => brow_lt h.row g e, fun i g ⟨j, x, _, hx, hg⟩ => ?_⟩
  obtain ⟨p, hp⟩ : ∃ p, ps[j]? = some p := ⟨_, List.getElem?_eq_getElem (by rw [← h.len]; exact (List.getElem?_eq_some_iff.1 hx).1)⟩
  exact brow_lt (h.bytes j x p hx hp).1 g hg
theorem FreshW.other {w : World} {own : BOwn} {v : Value} {vs : List Value} {ps : List (Nat × List UInt8)} (h : FreshW w own v vs ps) : ∀ i g, v.ownBlock = some g → ¬ Bls vs i g := fun i g e ⟨j, x, _, hx, hg⟩ => by
  obtain ⟨p, hp⟩ : ∃ p, ps[j]? = some p := ⟨_, List.getElem?_eq_getElem (by rw [← h.len]; exact (List.getElem?_eq_some_iff.1 hx).1)⟩
  exact row_ne (h.bytes j x p hx hp).1 h.row (by decide) g hg e
theorem Bls_succ {vs : List Value} {i : Nat} {x : Value} (hx : vs[i]? = some x) (g : Nat) : (Bls vs i g ∨ x.ownBlock = some g) ↔ Bls vs (i + 1) g := by
  constructor
  · rintro (⟨j, y, h1, h2, h3⟩ | e)
    · exact ⟨j, y, by omega, h2, h3⟩
    · exact ⟨i, x, by omega, hx, e⟩
  · rintro ⟨j, y, h1, h2, h3⟩
    rcases Nat.lt_or_ge j i with hj | hj
    · exact .inl ⟨j, y, hj, h2, h3⟩
    · obtain rfl : j = i := by omega
      rw [hx] at h2; cases h2
      exact .inr h3
theorem FreshW.fresh {w : World} {own : BOwn} {v : Value} {vs : List Value} {ps : List (Nat × List UInt8)} (h : FreshW w own v vs ps) {i : Nat} {x : Value} (hx : vs[i]? = some x) : ∀ g, x.ownBlock = some g → ¬ Bls vs i g := fun g hg ⟨j, y, h1, h2, h3⟩ => h.apart j i y x h1 h2 hx g h3 hg

theorem bytesKept.more {w : World} {own own' : BOwn} {rv wv : Value} {xs ws : List (Value × Nat)} {cc : List (List UInt8)} (h : bytesKept w own rv wv xs ws cc) (hk : ∀ g q, own g = some q → own' g = some q) : bytesKept w own' rv wv xs ws cc :=
  ⟨h.rx.more hk, h.rw'.more hk, h.lx, h.lw, fun i x bs hx hb => by obtain ⟨a1, a2, a3⟩ := h.lists i x bs hx hb; exact ⟨a1, a2, a3.more hk⟩, fun i x bs hx hb => by obtain ⟨a2, a3⟩ := h.was i x bs hx hb; exact ⟨a2, a3.more hk⟩⟩
def Le1 (r : Nat × Nat) : Prop := r.1 ≤ 1
/-- What keeping a list of writes leaves. -/
def writesKeptS (w : World) (own : BOwn) (b : Nat) (F : Nat → Value) (v : Value) (vs : List Value) (ps : List (Nat × List UInt8)) (ccb : List (List UInt8)) (cc : List (List (Nat × List UInt8))) (w' : World) : Prop :=
  ∃ (own' : BOwn) (rvb wvb : Value) (xsb wsb : List (Value × Nat)) (rv wv : Value) (xs ws : List (Value × Nat)), BookF 39 w' own' b (setF (setF (setF (setF F 2 rvb) 3 wvb) 29 rv) 30 wv) ∧ bytesKept w' own' rvb wvb xsb wsb (ccb ++ flatB ps) ∧ WKept w' own' rv wv xs ws (cc ++ [ps]) ∧ KB Le1 w own w' own' (fun g => Bls vs ps.length g ∨ v.ownBlock = some g)

set_option maxRecDepth 100000 in
set_option maxHeartbeats 8000000 in
theorem writeskeep_any (w : World) (own : BOwn) (b : Nat) (F : Nat → Value) (hb : BookF 39 w own b F) (rvb wvb : Value) (xsb wsb : List (Value × Nat)) (ccb : List (List UInt8)) (hF2 : F 2 = rvb) (hF3 : F 3 = wvb) (hkb : bytesKept w own rvb wvb xsb wsb ccb) (hnb : ccb.length ≤ 900000) (rv wv : Value) (xs ws : List (Value × Nat)) (cc : List (List (Nat × List UInt8))) (hrv : F 29 = rv) (hwv : F 30 = wv) (hk : WKept w own rv wv xs ws cc) (hn : cc.length ≤ 1000)
    (a : Option Addr) (cap : Nat) (ps : List (Nat × List UInt8)) (vs : List Value) (hl : ps.length ≤ 1000) (hf : FreshW w own (.slice a ps.length cap) vs ps) (hsz : ∀ p ∈ ps, p.2.length ≤ 16777216) :
    Calls Tryz.prog 11 #[.pointer (some ⟨b, 0, none⟩), .slice a ps.length cap] w fun e w' => e = .returned (.tuple #[]) ∧ writesKeptS w own b F (.slice a ps.length cap) vs ps ccb cc w' := by
  obtain ⟨i2, hi2, hy0, hy1, hy2⟩ := info_parts writesinfol
  have HK := Lib.hid hk
  have HRv := Lib.hid hrv
  have HWv := Lib.hid hwv
  obtain ⟨ra, rc, rfl⟩ := hk.rx.shape
  obtain ⟨wa, wc, rfl⟩ := hk.rw'.shape
  have HLx := Lib.hid hk.lx
  have HLw := Lib.hid hk.lw
  have HFr := Lib.hid hf
  have HSz := Lib.hid hsz
  have HSt0 : Hid (PKeeping w own b F xsb wsb ccb vs ps 0 w) := Lib.hid (by
    refine ⟨own, rvb, wvb, xsb, wsb, ?_, ?_, (KB.refl R3 w own).iff (fun g => ⟨fun f => f.elim, fun ⟨j, x, h, _⟩ => by omega⟩)⟩
    · have e : setF (setF F 2 rvb) 3 wvb = F := by
        funext j; unfold setF
        by_cases h3 : j = 3
        · rw [if_pos h3, h3, hF3]
        · rw [if_neg h3]
          by_cases h2 : j = 2
          · rw [if_pos h2, h2, hF2]
          · rw [if_neg h2]
      rw [e]; exact hb
    · simpa [flatB] using hkb)
  obtain ⟨la, lc, el, _, _, hlg⟩ := bk_slice hf.row
  cases el
  have HLg := Lib.hid hlg
  clear hb hF2 hF3 hkb hf hsz hlg hk hrv hwv
  go_enter Tryz.func11, Tryz.ntmps11
  go_wp2_with fail
  go_loopg [4] ps.length (fun gm iv wr => ∃ (i : Nat), i ≤ ps.length ∧ gm = ps.length - i ∧ iv = .int .i64 i ∧ PKeeping w own b F xsb wsb ccb vs ps i wr)
  case atStart => exact ⟨0, by omega, rfl, rfl, HSt0.out⟩
  case round =>
    clear HSt0
    obtain ⟨i, hi, hgm, rfl, own1, rv1, wv1, xs1, ws1, hb1, hk1, hK1⟩ := hrel
    have Hg := Lib.hid hgm
    have HB1 := Lib.hid hb1
    have HK1 := Lib.hid hk1
    have HKB1 := Lib.hid hK1
    clear hgm hb1 hk1 hK1
    by_cases hlt : i < ps.length
    · obtain ⟨p, hp⟩ : ∃ p, ps[i]? = some p := ⟨_, List.getElem?_eq_getElem hlt⟩
      obtain ⟨x, hx⟩ : ∃ x, vs[i]? = some x := ⟨_, List.getElem?_eq_getElem (by rw [HFr.out.len]; exact hlt)⟩
      obtain ⟨gl, rfl⟩ := HLg.out (by omega)
      have hki : (i : Int) < (ps.length : Int) := by omega
      have hk0 : (0 : Int) ≤ (i : Int) := by omega
      obtain ⟨hr1, hfr⟩ := HFr.out.bytes i x p hx hp
      have HFrs := Lib.hid (HFr.out.fresh hx)
      have HFrn := Lib.hid hfr
      have HSc := Lib.hid (Bls_succ hx)
      obtain ⟨pc0, pc1⟩ := pcells_get ps vs i p x hp hx
      have HPc0 := Lib.hid pc0
      have HPc1 := Lib.hid pc1
      have HRow : Hid (∀ {wq : World} {own' : BOwn} {D : Nat → Prop}, KB R3 w own wq own' D → wq.cell? ⟨gl, i * 2, none⟩ = some (.int .i64 p.1) ∧ wq.cell? ⟨gl, i * 2 + 1, none⟩ = some x) := Lib.hid (fun k => by
        have h := k.row HFr.out.row HFr.out.free
        have h1 := h.cells rfl (i * 2) _ HPc0.out
        have h2 := h.cells rfl (i * 2 + 1) _ HPc1.out
        rw [bk_add, Nat.zero_add] at h1 h2
        exact ⟨h1, h2⟩)
      obtain ⟨ka, kc, e1, _⟩ := bk_slice hr1
      subst e1
      have HR1 := Lib.hid hr1
      have c0 := (HRow.out HKB1.out).2
      have hps := HSz.out p (List.mem_of_getElem? hp)
      have HPs := Lib.hid hps
      have HTk : Hid (flatB (ps.take (i + 1)) = flatB (ps.take i) ++ [p.2]) := Lib.hid (by rw [take_snocP hp, flatB_snoc])
      have HLn : Hid ((ccb ++ flatB (ps.take i)).length ≤ 902000) := Lib.hid (by rw [List.length_append, flatB_length, List.length_take]; omega)
      clear hr1 hfr hps pc0 pc1 hp hx
      go_wp2_with fail
      refine (keep_one HB1.out HK1.out HKB1.out (by have := HLn.out; omega) ka kc p.2 HPs.out HR1.out (fun g e => ⟨HFrn.out g e, HFrs.out g e⟩)).mono ?_
      rintro e w3 ⟨rfl, own3, rv3, wv3, xs3, ws3, hb3, hk3, hK3⟩
      have HB3 := Lib.hid hb3
      have HK3 := Lib.hid hk3
      have HKB3 := Lib.hid (hK3.iff HSc.out)
      clear hb3 hk3 hK3 c0
      go_wp2_with fail
      go_roundg (ps.length - (i + 1))
      case measure => have := Hg.out; omega
      case rel => exact ⟨i + 1, by omega, rfl, by go_num, own3, rv3, wv3, xs3, ws3, HB3.out, by rw [HTk.out, ← List.append_assoc]; exact HK3.out, HKB3.out⟩
    · have hki : ¬ (i : Int) < (ps.length : Int) := by omega
      obtain rfl : i = ps.length := by omega
      have htk : ps.take ps.length = ps := List.take_length
      have HKf : Hid (bytesKept wr own1 rv1 wv1 xs1 ws1 (ccb ++ flatB ps)) := Lib.hid (by have h := HK1.out; rw [htk] at h; exact h)
      obtain ⟨F1, hF1⟩ : ∃ F1, F1 = setF (setF F 2 rv1) 3 wv1 := ⟨_, rfl⟩
      have HF1 := Lib.hid hF1
      rw [← hF1] at HB1
      have hf17 : F1 29 = .slice ra xs.length rc := by rw [hF1, setF_other (by decide), setF_other (by decide)]; exact HRv.out
      have hf18 : F1 30 = .slice wa ws.length wc := by rw [hF1, setF_other (by decide), setF_other (by decide)]; exact HWv.out
      have Hf18 := Lib.hid hf18
      have Hf17 := Lib.hid hf17
      have hu1 : ∀ g, (Value.slice a ps.length cap).ownBlock = some g → own1 g = none := fun g e => HKB1.out.free (HFr.out.free g e) (HFr.out.lt.1 g e) (HFr.out.other _ g e)
      obtain ⟨own2, ho2⟩ : ∃ own2, own2 = giveV own1 (.slice a ps.length cap) (11, cc.length) := ⟨_, rfl⟩
      have HKB2 : Hid (KB Le1 w own wr own2 (fun g => Bls vs ps.length g ∨ (Value.slice a ps.length cap).ownBlock = some g)) := Lib.hid (by rw [ho2]; exact (HKB1.out.mono (fun r hr => by rcases hr with e | e | e <;> rw [e] <;> unfold Le1 <;> decide)).give hu1 (by decide))
      have hkeep2 : ∀ g q, own1 g = some q → own2 g = some q := by rw [ho2]; exact giveV_keep hu1
      have HM2 : Hid (Mine own2 (11, cc.length) (.slice a ps.length cap)) := Lib.hid (by rw [ho2]; exact giveV_mine _ _ _)
      have hlt2 : ∀ g q, own2 g = some q → g < wr.heap.size := fun g q e => by
        rw [ho2] at e
        rcases giveV_new e with e | e
        · exact HB1.out.lt g q e
        · exact Nat.lt_of_lt_of_le (HFr.out.lt.1 g e) HKB1.out.chg.size
      have HB2 := Lib.hid (HB1.out.more hkeep2 hlt2)
      have HKf2 := Lib.hid (HKf.out.more hkeep2)
      have rowc : ∀ {rk : Nat} {rv' : Value} {zs : List (Value × Nat)}, RowK w own 54 rk rv' zs → rk ≠ 2 → rk ≠ 3 → RowK wr own2 54 rk rv' zs := fun {rk rv' zs} h n2 n3 =>
        ⟨ownsRow_chg h.row HKB1.out.chg (fun g e ⟨r, e2, h3⟩ => by
          rw [h.mine g e] at e2; cases e2
          rcases h3 with h3 | h3 | h3
          · exact n2 (by injection h3)
          · exact n3 (by injection h3)
          · injection h3 with h4; omega), fun g e => HKB2.out.keep g _ (h.mine g e)⟩
      have HX := Lib.hid (rowc HK.out.rx (by decide) (by decide))
      have HW := Lib.hid (rowc HK.out.rw' (by decide) (by decide))
      have hxl : xs.length ≤ 1000 := by have := HLx.out; omega
      have hwl : ws.length ≤ 1000 := by have := HLw.out; omega
      have k1 : wr.cell? ⟨b, 29, none⟩ = some (.slice ra xs.length rc) := by rw [HB2.out.cell 29 (by omega), hf17]
      have k1a : ∀ o, (wr.alloc o).cell? ⟨b, 29, none⟩ = some (.slice ra xs.length rc) := fun o => bk_cell ((Chg.refl (fun _ => False) wr).alloc o) k1 (fun f => f)
      have HRow : Hid (∀ o, (wr.alloc o).ownsRow 0 54 1 (.slice ra xs.length rc) xs.length (xs.map (·.1))) := Lib.hid (fun o => ownsRow_chg HX.out.row ((Chg.refl (fun _ => False) wr).alloc o) (fun _ _ f => f))
      have HLt : Hid (∀ (o : Obj) g r, own2 g = some r → g < (wr.alloc o).heap.size) := Lib.hid (fun o g r e => by have := hlt2 g r e; have e2 : (wr.alloc o).heap.size = wr.heap.size + 1 := Array.size_push _; omega)
      clear hf17 hf18 hu1 ho2 hkeep2 hlt2 rowc hF1 htk
      go_wp2_with
        (at_builtin
         refine list_grow (P := Tryz.prog) (w := wr.alloc (.cells #[.slice a ps.length cap] 54)) (by rfl) _ _ 34 (by rfl) 54 i2 (.slice none 0 0) 1 24 Tryz.underlying34 hi2 hy0 hy1 hy2 rfl (by omega) own2 (fun g r e => HLt.out _ g r e) (1, 29) (fun r => r = (1, 29)) rfl (.slice ra xs.length rc) xs.length _ (by rfl) (HRow.out _) HX.out.mine 1 1 ⟨wr.heap.size, 0, none⟩ [.slice a ps.length cap] (by rfl) rfl (World.news_of_block (cs := #[.slice a ps.length cap]) (t := 54) (fr := (0, 0)) (bk_new wr _)) (by simp [Value.oneCell']) (by omega) (by unfold maxLen; omega) (by omega) ?_
         intro g7 c7 w7 own7 hr7 hg7 hst7
         have HSt7 : Hid (OStep (fun r => r = (1, 29)) wr own2 w7 own7) := Lib.hid ((OStep.of0 (R := fun r => r = (1, 29)) HB2.out.lt ((Chg.refl _ wr).alloc _)).trans hst7)
         have HR7 := Lib.hid hr7
         have HG7 := Lib.hid hg7
         have HB7 := Lib.hid (HB2.out.step HSt7.out (by decide))
         have q2 : w7.cell? ⟨b, 29, none⟩ = some (.slice ra xs.length rc) := (by rw [HB7.out.cell 29 (by omega), Hf17.out])
         have qf : w7.frozen? ⟨b, 29, none⟩ = false := HB7.out.frozen 29
         clear hr7 hg7 hst7)
      obtain ⟨wm, hwm⟩ : ∃ wm, wm = w7.setCell ⟨b, 29, none⟩ (.slice (some ⟨g7, 0, none⟩) (xs.length + 1) c7) := ⟨_, rfl⟩
      rw [← hwm]
      have HStm : Hid (OStep (fun r => r = (1, 29) ∨ r = (0, 0)) wr own2 wm own7) := Lib.hid (by rw [hwm]; exact (HSt7.out.mono (fun r e => .inl e)).trans (OStep.set (R := fun r => r = (1, 29) ∨ r = (0, 0)) HB7.out.lt HB7.out.role (.inr rfl) _))
      have HBm : Hid (BookF 39 wm own7 b (setF F1 29 (.slice (some ⟨g7, 0, none⟩) (xs.length + 1) c7))) := Lib.hid (by rw [hwm]; exact HB7.out.set 29 _ (by omega))
      have HXm : Hid (RowK wm own7 54 29 (.slice (some ⟨g7, 0, none⟩) (xs.length + 1) c7) (xs ++ [(.slice a ps.length cap, ps.length)])) := Lib.hid ⟨by
        rw [hwm, List.length_append, List.map_append]
        exact ownsRow_chg HR7.out (Chg.setCell (S := fun x => x = b) (Chg.refl _ w7) (p := ⟨b, 29, none⟩) (.inl rfl) _) (fun x e1 e2 => by
          simp only [Value.ownBlock, Option.some.injEq] at e1
          have h := HG7.out
          rw [e1, e2, HB7.out.role] at h; simp at h), fun x e1 => by simp only [Value.ownBlock, Option.some.injEq] at e1; rw [← e1]; exact HG7.out⟩
      have HWm := Lib.hid (HW.out.step HStm.out (by decide))
      have HKBm := Lib.hid (HKB2.out.ostep HStm.out (fun r e => by rcases e with e | e <;> rw [e] <;> unfold Le1 <;> decide))
      have HKfm := Lib.hid (HKf2.out.more HStm.out.keep)
      have HKfm : Hid (bytesKept wm own7 rv1 wv1 xs1 ws1 (ccb ++ flatB ps)) := Lib.hid ⟨(HKf2.out.rx.step HStm.out (by decide)), HKf2.out.rw'.step HStm.out (by decide), HKf2.out.lx, HKf2.out.lw, fun i x bs hx hb => (by obtain ⟨a1, a2, a3⟩ := HKf2.out.lists i x bs hx hb; exact ⟨a1, row_step a2 a3 (fun e => by simp at e) HStm.out, a3.step HStm.out⟩), fun i x bs hx hb => (by obtain ⟨a2, a3⟩ := HKf2.out.was i x bs hx hb; exact ⟨row_step a2 a3 (fun e => by simp at e) HStm.out, a3.step HStm.out⟩)⟩
      clear k1 k1a q2 qf hwm
      have k2 : wm.cell? ⟨b, 30, none⟩ = some (.slice wa ws.length wc) := by rw [HBm.out.cell 30 (by omega), setF_other (by decide), Hf18.out]
      have HSees : Hid (WSees wm (.slice a ps.length cap) ps) := Lib.hid (wsees_of_row HFr.out.len (HKBm.out.row HFr.out.row HFr.out.free) (fun j x p hx hp => by
        obtain ⟨h1, h3⟩ := HFr.out.bytes j x p hx hp
        exact SeesB.of_row (HKBm.out.row h1 h3)))
      have HCopy : Hid (∀ wx, Chg (fun _ => False) wm wx → Calls Tryz.prog 28 #[.slice a ps.length cap] wx fun e w' => ∃ v' vs', e = .returned v' ∧ RowW wx w' v' vs' ps ∧ Chg (fun _ => False) wx w') := Lib.hid (fun wx hx => writes_any wx _ ps (HSees.out.none hx) (fun p hp => HSz.out p hp) (by omega))
      go_wp2_with fail
      go_region_law
        (first
          | (refine step_grow (P := Tryz.prog) (w := w3.alloc (.cells #[.slice a3 ps.length c3] 54)) (by rfl) _ _ 34 (by rfl) 54 i2 (.slice none 0 0) 1 24 Tryz.underlying34 hi2 hy0 hy1 hy2 rfl (by omega) own3 (fun g r e => HLt3.out _ g r e) (1, 30) (fun r => r = (1, 30)) rfl (.slice wa ws.length wc) ws.length _ (by rfl) (HRow3.out _) HW3.out.mine 1 1 ⟨w3.heap.size, 0, none⟩ [.slice a3 ps.length c3] (by rfl) rfl (World.news_of_block (cs := #[.slice a3 ps.length c3]) (t := 54) (fr := (0, 0)) (bk_new w3 _)) (by simp [Value.oneCell']) (by omega) (by unfold maxLen; omega) (by omega) ?_
             intro g8 c8 w8 own8 hr8 hg8 hst8 hold8
             have HSt8 : Hid (OStep (fun r => r = (1, 30)) w3 own3 w8 own8) := Lib.hid ((OStep.of0 (R := fun r => r = (1, 30)) HB3.out.lt ((Chg.refl _ w3).alloc _)).trans hst8)
             have HR8 := Lib.hid hr8
             have HG8 := Lib.hid hg8
             have HB8 := Lib.hid (HB3.out.step HSt8.out (by decide))
             have z2 : w8.cell? ⟨b, 30, none⟩ = some (.slice wa ws.length wc) := (by rw [HB8.out.cell 30 (by omega), setF_other (by decide), Hf18.out])
             have zf : w8.frozen? ⟨b, 30, none⟩ = false := HB8.out.frozen 30
             clear hr8 hg8 hst8 hold8)
          | (go_simp; go_at_call 28; refine (HCopy.out _ ((Chg.refl _ wm).drew)).mono ?_
             rintro e w3 ⟨v3, vs3, rfl, hrl3, hc3⟩
             obtain ⟨a3, c3, rfl⟩ := hrl3.shape
             obtain ⟨own3, ho3e⟩ : ∃ own3, own3 = giveR own7 wm.heap.size w3.heap.size := ⟨_, rfl⟩
             have HC3 : Hid (Chg (fun _ => False) wm w3) := Lib.hid (((Chg.refl _ wm).drew).trans hc3 (fun _ f => f.elim))
             have hkeep3 : ∀ g q, own7 g = some q → own3 g = some q := (by rw [ho3e]; exact giveR_keep)
             have HKp3 := Lib.hid hkeep3
             have hlt3 : ∀ g q, own3 g = some q → g < w3.heap.size := fun g q e => (by
               rw [ho3e] at e
               rcases giveR_new e with e | ⟨_, e, _⟩
               · exact Nat.lt_of_lt_of_le (HBm.out.lt g q e) HC3.out.size
               · exact e)
             have hgv : ∀ g, wm.heap.size ≤ g → g < w3.heap.size → own3 g = some (99, 0) := fun g e1 e2 => (by
               rw [ho3e]
               refine giveR_has ?_ e1 e2
               cases e7 : own7 g with
               | none => rfl
               | some q => have := HBm.out.lt g q e7; omega)
             have HPL3 : Hid (WL w3 own3 (.slice a3 ps.length c3) ps) := Lib.hid ⟨vs3, hrl3.len, hrl3.row, fun g e => ⟨(99, 0), hgv g (hrl3.own g e) (brow_lt hrl3.row g e), by decide⟩, fun j x p hx hp => (by
               obtain ⟨n1, n2⟩ := hrl3.bytes j x p hx hp
               exact ⟨n1, fun g e => ⟨(99, 0), hgv g (n2 g e) (brow_lt n1 g e), by decide⟩⟩)⟩
             have HKB3 : Hid (KB Le1 w own w3 own3 (fun g => Bls vs ps.length g ∨ (Value.slice a ps.length cap).ownBlock = some g)) := Lib.hid (by rw [ho3e]; exact (HKBm.out.chg0 HC3.out).span HKBm.out.chg.size)
             have HB3 := Lib.hid ((HBm.out.step (OStep.of0 (R := fun _ => False) HBm.out.lt HC3.out) (fun f => f)).more hkeep3 hlt3)
             have HW3 := Lib.hid ((HWm.out.step (OStep.of0 (R := fun _ => False) HBm.out.lt HC3.out) (fun f => f)).more hkeep3)
             have HX3 := Lib.hid ((HXm.out.step (OStep.of0 (R := fun _ => False) HBm.out.lt HC3.out) (fun f => f)).more hkeep3)
             have HKf3 := Lib.hid ((HKfm.out.chg0 HC3.out).more hkeep3)
             have HRow3 : Hid (∀ o, (w3.alloc o).ownsRow 0 54 1 (.slice wa ws.length wc) ws.length (ws.map (·.1))) := Lib.hid (fun o => ownsRow_chg HW3.out.row ((Chg.refl (fun _ => False) w3).alloc o) (fun _ _ f => f))
             have HLt3 : Hid (∀ (o : Obj) g r, own3 g = some r → g < (w3.alloc o).heap.size) := Lib.hid (fun o g r e => by have := hlt3 g r e; have e2 : (w3.alloc o).heap.size = w3.heap.size + 1 := Array.size_push _; omega)
             have y2 : w3.cell? ⟨b, 30, none⟩ = some (.slice wa ws.length wc) := bk_cell HC3.out k2 (fun f => f)
             have y2a : ∀ o, (w3.alloc o).cell? ⟨b, 30, none⟩ = some (.slice wa ws.length wc) := fun o => bk_cell ((Chg.refl (fun _ => False) w3).alloc o) y2 (fun f => f)
             clear hrl3 hc3 ho3e hkeep3 hlt3 hgv))
      all_goals
        go_wp2_with fail
        go_end0
        have hlx := HLx.out
        have hlw := HLw.out
        obtain ⟨w9, hw9⟩ : ∃ w9, w9 = w8.setCell ⟨b, 30, none⟩ (.slice (some ⟨g8, 0, none⟩) (ws.length + 1) c8) := ⟨_, rfl⟩
        have hs9 : OStep (fun r => r = (0, 0)) w8 own8 w9 own8 := by rw [hw9]; exact OStep.set (R := fun r => r = (0, 0)) HB8.out.lt HB8.out.role rfl _
        have hb9 : BookF 39 w9 own8 b (setF (setF F1 29 (.slice (some ⟨g7, 0, none⟩) (xs.length + 1) c7)) 30 (.slice (some ⟨g8, 0, none⟩) (ws.length + 1) c8)) := by rw [hw9]; exact HB8.out.set 30 _ (by omega)
        have hKB9 := (HKB3.out.ostep HSt8.out (fun r e => by rw [e]; unfold Le1; decide)).ostep hs9 (fun r e => by rw [e]; unfold Le1; decide)
        have hKf9 : bytesKept w9 own8 rv1 wv1 xs1 ws1 (ccb ++ flatB ps) := by
          have st : ∀ {R : Nat × Nat → Prop} {wa wb : World} {oa ob : BOwn}, OStep R wa oa wb ob → (∀ r, R r → r = (1, 30) ∨ r = (0, 0)) → bytesKept wa oa rv1 wv1 xs1 ws1 (ccb ++ flatB ps) → bytesKept wb ob rv1 wv1 xs1 ws1 (ccb ++ flatB ps) := fun k h1 h =>
            ⟨h.rx.step k (fun e => by simpa using h1 _ e), h.rw'.step k (fun e => by simpa using h1 _ e), h.lx, h.lw,
             fun i x bs hx hb => by obtain ⟨a1, a2, a3⟩ := h.lists i x bs hx hb; exact ⟨a1, row_step a2 a3 (fun e => by simpa using h1 _ e) k, a3.step k⟩,
             fun i x bs hx hb => by obtain ⟨a2, a3⟩ := h.was i x bs hx hb; exact ⟨row_step a2 a3 (fun e => by simpa using h1 _ e) k, a3.step k⟩⟩
          exact st hs9 (fun r e => .inr e) (st HSt8.out (fun r e => .inl e) HKf3.out)
        have hgw : w8.ownsRow 0 54 1 (.slice (some ⟨g8, 0, none⟩) (ws.length + 1) c8) (ws.length + 1) (ws.map (·.1) ++ [.slice a3 ps.length c3]) := HR8.out
        have hle : ∀ {o : BOwn} {g : Nat} {r : Nat × Nat}, o g = some r → 2 ≤ r.1 → ¬ ∃ r', o g = some r' ∧ Le1 r' := fun e h ⟨r', e2, h2⟩ => by
          rw [e] at e2; cases e2; unfold Le1 at h2; omega
        refine ⟨rfl, own8, rv1, wv1, xs1, ws1, _, _, xs ++ [(.slice a ps.length cap, ps.length)], ws ++ [(.slice a3 ps.length c3, ps.length)], by rw [← hw9, ← HF1.out]; exact hb9, by rw [← hw9]; exact hKf9, ?_, by rw [← hw9]; exact hKB9⟩
        rw [← hw9]
        refine ⟨(HX3.out.step HSt8.out (by decide)).step hs9 (by decide), ⟨?_, fun g e => by simp only [Value.ownBlock, Option.some.injEq] at e; rw [← e]; exact HG8.out⟩, by simp [hlx], by simp [hlw], fun i x qs hx hq => ?_, fun i y qs hy hq => ?_⟩
        · rw [List.length_append, List.map_append]
          exact row_step hgw (fun g e => by simp only [Value.ownBlock, Option.some.injEq] at e; rw [← e]; exact HG8.out) (by decide) hs9
        · rcases Nat.lt_or_ge i cc.length with hi | hi
          · rw [List.getElem?_append_left (by omega)] at hx
            rw [List.getElem?_append_left hi] at hq
            obtain ⟨h1, h2, h3⟩ := HK.out.lists i x qs hx hq
            exact ⟨h1, (h2.chg hKB9.chg (fun g r e h => hle e h)).more hKB9.keep, fun g e => hKB9.keep g _ (h3 g e)⟩
          · rw [List.getElem?_append_right (by omega)] at hx
            rw [List.getElem?_append_right hi] at hq
            have h0 : i - cc.length = 0 := by have := (List.getElem?_eq_some_iff.1 hq).1; simp at this; omega
            rw [hlx, h0] at hx
            rw [h0] at hq
            obtain rfl : i = cc.length := by omega
            simp at hx hq
            subst hx; subst hq
            refine ⟨rfl, ⟨vs, HFr.out.len, hKB9.row HFr.out.row HFr.out.free, fun g e => hKB9.has g (.inr e), fun j x p hx hp => ?_⟩, fun g e => hs9.keep _ _ (HSt8.out.keep _ _ (HKp3.out _ _ (HStm.out.keep _ _ (HM2.out g e))))⟩
            obtain ⟨h1, h3⟩ := HFr.out.bytes j x p hx hp
            have hj : j < ps.length := (List.getElem?_eq_some_iff.1 hp).1
            exact ⟨hKB9.row h1 h3, fun g e => hKB9.has g (.inl ⟨j, x, hj, hx, e⟩)⟩
        · rcases Nat.lt_or_ge i cc.length with hi | hi
          · rw [List.getElem?_append_left (by omega)] at hy
            rw [List.getElem?_append_left hi] at hq
            exact ((HK.out.was i y qs hy hq).chg hKB9.chg (fun g r e h => hle e h)).more hKB9.keep
          · rw [List.getElem?_append_right (by omega)] at hy
            rw [List.getElem?_append_right hi] at hq
            have h0 : i - cc.length = 0 := by have := (List.getElem?_eq_some_iff.1 hq).1; simp at this; omega
            rw [hlw, h0] at hy
            rw [h0] at hq
            obtain rfl : i = cc.length := by omega
            simp at hy hq
            subst hy; subst hq
            have h8 := (HPL3.out.chg HSt8.out.chg (fun g r e h => fun ⟨r', e2, h2⟩ => by rw [e] at e2; cases e2; rw [h2] at h; simp at h)).more HSt8.out.keep
            exact (h8.chg hs9.chg (fun g r e h => fun ⟨r', e2, h2⟩ => by rw [e] at e2; cases e2; rw [h2] at h; simp at h)).more hs9.keep
end Go.Proofs.YtckioocahmbhkaaGreatDoor
