/- Walks: Parse. -/
import Derived.Test.YteejkkidnohcfaaGreatDoorW10
namespace Go.Proofs.YteejkkidnohcfaaGreatDoor
open Go Go.RowKit Go.Maps

theorem NewRow.sees {w w' : World} {v : Value} {bs : Bytes} (h : NewRow w w' v bs) : SeesB w' v bs := SeesB.of_row h.2.1
theorem NewRow.chg {w w1 w2 : World} {v : Value} {bs : Bytes} {S : Nat → Prop} (h : NewRow w w1 v bs) (hc : Chg S w1 w2) (hs : ∀ g, v.ownBlock = some g → ¬ S g) : NewRow w w2 v bs :=
  ⟨h.1, ownsRow_chg h.2.1 hc hs, h.2.2⟩
theorem NewRow.chg0 {w w1 w2 : World} {v : Value} {bs : Bytes} (h : NewRow w w1 v bs) (hc : Chg (fun _ => False) w1 w2) : NewRow w w2 v bs := h.chg hc (fun _ _ f => f)
theorem NewRow.since {w0 w w' : World} {v : Value} {bs : Bytes} (h : NewRow w w' v bs) (hs : w0.heap.size ≤ w.heap.size) : NewRow w0 w' v bs := ⟨h.1, h.2.1, fun g e => Nat.le_trans hs (h.2.2 g e)⟩
/-- Blocks of rows of two types are two. -/
theorem row_ne {w : World} {B1 B2 : Nat} {e1 e2 : TypeId} {s1 s2 n1 n2 : Nat} {v1 v2 : Value} {x1 x2 : List Value} (h1 : w.ownsRow B1 e1 s1 v1 n1 x1) (h2 : w.ownsRow B2 e2 s2 v2 n2 x2) (hne : e1 ≠ e2) : ∀ g, v1.ownBlock = some g → ¬ v2.ownBlock = some g := by
  intro g e f
  rcases h1.2 with ⟨q, _⟩ | ⟨g1, c1, cur1, q, _, hh1, _⟩
  · rw [q] at e; simp [Value.ownBlock] at e
  · rcases h2.2 with ⟨q2, _⟩ | ⟨g2, c2, cur2, q2, _, hh2, _⟩
    · rw [q2] at f; simp [Value.ownBlock] at f
    · rw [q] at e; rw [q2] at f
      simp only [Value.ownBlock, Option.some.injEq] at e f
      subst e; subst f
      rw [hh1] at hh2
      injection hh2 with h3
      injection h3 with h4 h5
      exact hne h5

/-- Pairs in a row of one's own, made since w, their bytes too. -/
structure RowL (w wr : World) (v : Value) (vs : List (Value × Value)) (ps : List PairB) : Prop where
  shape : ∃ a c, v = .slice a ps.length c
  row : wr.ownsRow 0 54 2 v ps.length (pCells vs)
  len : vs.length = ps.length
  own : ∀ g, v.ownBlock = some g → w.heap.size ≤ g
  bytes : ∀ (j : Nat) x p, vs[j]? = some x → ps[j]? = some p → NewRow w wr x.1 p.1 ∧ NewRow w wr x.2 p.2
theorem RowL.nil (w wr : World) : RowL w wr (.slice none 0 0) [] [] := ⟨⟨none, 0, rfl⟩, World.ownsRow_nil _ _ _ _, rfl, fun g e => by simp [Value.ownBlock] at e, fun j x p h => by simp at h⟩
theorem RowL.chg {w w1 w2 : World} {v : Value} {vs : List (Value × Value)} {ps : List PairB} {S : Nat → Prop} (h : RowL w w1 v vs ps) (hc : Chg S w1 w2) (hs : ∀ k, S k → ¬ w.heap.size ≤ k ∨ w1.heap.size ≤ k) : RowL w w2 v vs ps := by
  have key : ∀ (u : Value) (n : Nat) (e : TypeId) (sz : Nat) (xs : List Value), w1.ownsRow 0 e sz u n xs → (∀ g, u.ownBlock = some g → w.heap.size ≤ g) → ∀ g, u.ownBlock = some g → ¬ S g := by
    intro u n e sz xs hr ho g eg hS
    rcases hs g hS with h1 | h1
    · exact h1 (ho g eg)
    · rcases hr.2 with ⟨q, _⟩ | ⟨g1, c1, cur1, q, _, hh1, _⟩
      · rw [q] at eg; simp [Value.ownBlock] at eg
      · rw [q] at eg; simp only [Value.ownBlock, Option.some.injEq] at eg
        have := heap_lt hh1; omega
  refine ⟨h.shape, ownsRow_chg h.row hc (key _ _ _ _ _ h.row h.own), h.len, h.own, fun j x p hx hp => ?_⟩
  obtain ⟨h1, h2⟩ := h.bytes j x p hx hp
  exact ⟨h1.chg hc (key _ _ _ _ _ h1.2.1 h1.2.2), h2.chg hc (key _ _ _ _ _ h2.2.1 h2.2.2)⟩
theorem RowL.chg0 {w w1 w2 : World} {v : Value} {vs : List (Value × Value)} {ps : List PairB} (h : RowL w w1 v vs ps) (hc : Chg (fun _ => False) w1 w2) : RowL w w2 v vs ps := h.chg hc (fun _ f => f.elim)
theorem RowL.seesP {w wr : World} {v : Value} {vs : List (Value × Value)} {ps : List PairB} (h : RowL w wr v vs ps) : SeesP wr v ps :=
  RowP.seesP (B := 0) ⟨h.row, h.len, fun j x p hx hp => ⟨(h.bytes j x p hx hp).1.sees, (h.bytes j x p hx hp).2.sees⟩⟩
/-- One pair more. -/
theorem RowL.push {w wr w6 : World} {v v' kv uv : Value} {vs : List (Value × Value)} {ps : List PairB} {p : PairB} (h : RowL w wr v vs ps) (hk : NewRow w wr kv p.1) (hu : NewRow w wr uv p.2) (hsh : ∃ a c, v' = .slice a (ps.length + 1) c)
    (hr : w6.ownsRow 0 54 2 v' (ps.length + 1) (pCells vs ++ [kv, uv])) (hc : Chg (fun k => v.ownBlock = some k) wr w6) (ho : ∀ g, v'.ownBlock = some g → v.ownBlock = some g ∨ w.heap.size ≤ g) : RowL w w6 v' (vs ++ [(kv, uv)]) (ps ++ [p]) := by
  have hl : (ps ++ [p]).length = ps.length + 1 := by simp
  have kc : ∀ {u : Value} {bs : Bytes}, NewRow w wr u bs → NewRow w w6 u bs := fun {u bs} hn => hn.chg hc (fun g e => row_ne hn.2.1 h.row (by decide) g e)
  refine ⟨by rw [hl]; exact hsh, by rw [hl, pCells_snoc]; exact hr, by simp [h.len], fun g e => (ho g e).elim (h.own g) id, fun j x q hx hq => ?_⟩
  rcases Nat.lt_or_ge j ps.length with hj | hj
  · rw [List.getElem?_append_left (by rw [h.len]; exact hj)] at hx
    rw [List.getElem?_append_left hj] at hq
    obtain ⟨h1, h2⟩ := h.bytes j x q hx hq
    exact ⟨kc h1, kc h2⟩
  · rw [List.getElem?_append_right hj] at hq
    rw [List.getElem?_append_right (by rw [h.len]; exact hj), h.len] at hx
    have h0 : j - ps.length = 0 := by
      have := (List.getElem?_eq_some_iff.1 hq).1
      simp at this; omega
    rw [h0] at hx hq
    simp at hx hq
    subst hx; subst hq
    exact ⟨kc hk, kc hu⟩

theorem heap_alloc_new2 (w : World) (a b : Obj) : ((w.alloc a).alloc b).heap[w.heap.size + 1]? = some b := by
  have h := heap_alloc_new (w.alloc a) b
  have e : (w.alloc a).heap.size = w.heap.size + 1 := Array.size_push _
  rw [e] at h; exact h
theorem row_lt {w : World} {B : Nat} {e : TypeId} {sz n : Nat} {v : Value} {xs : List Value} (h : w.ownsRow B e sz v n xs) : ∀ g, v.ownBlock = some g → g < w.heap.size := by
  intro g eg
  rcases h.2 with ⟨q, _⟩ | ⟨g1, c1, cur1, q, _, hh1, _⟩
  · rw [q] at eg; simp [Value.ownBlock] at eg
  · rw [q] at eg; simp only [Value.ownBlock, Option.some.injEq] at eg
    rw [← eg]; exact heap_lt hh1
/-- The blocks of a pair; pairs whose lists share no block. -/
def Bl (x : Value × Value) (g : Nat) : Prop := x.1.ownBlock = some g ∨ x.2.ownBlock = some g
def Apart (vs : List (Value × Value)) : Prop := (∀ (j : Nat) x, vs[j]? = some x → ∀ g, x.1.ownBlock = some g → x.2.ownBlock ≠ some g) ∧ ∀ (i j : Nat) x y, i < j → vs[i]? = some x → vs[j]? = some y → ∀ g, Bl x g → ¬ Bl y g
theorem Apart.nil : Apart [] := ⟨fun j x h => by simp at h, fun i j x y _ h => by simp at h⟩
theorem Apart.push {vs : List (Value × Value)} {B : Nat} (h : Apart vs) (hlt : ∀ (j : Nat) x, vs[j]? = some x → ∀ g, Bl x g → g < B) {y : Value × Value} (hy : ∀ g, Bl y g → B ≤ g) (hd : ∀ g, y.1.ownBlock = some g → y.2.ownBlock ≠ some g) : Apart (vs ++ [y]) := by
  have key : ∀ (j : Nat) x, (vs ++ [y])[j]? = some x → (j < vs.length ∧ vs[j]? = some x) ∨ (j = vs.length ∧ x = y) := fun j x hx => by
    rcases Nat.lt_or_ge j vs.length with hj | hj
    · rw [List.getElem?_append_left hj] at hx; exact .inl ⟨hj, hx⟩
    · rw [List.getElem?_append_right hj] at hx
      have h0 : j - vs.length = 0 := by have := (List.getElem?_eq_some_iff.1 hx).1; simp at this; omega
      rw [h0] at hx; simp at hx
      exact .inr ⟨by omega, hx.symm⟩
  refine ⟨fun j x hx => ?_, fun i j x z hij hx hz g hg => ?_⟩
  · rcases key j x hx with ⟨_, h1⟩ | ⟨_, rfl⟩
    · exact h.1 j x h1
    · exact hd
  · rcases key i x hx with ⟨_, h1⟩ | ⟨h1, _⟩
    · rcases key j z hz with ⟨_, h2⟩ | ⟨_, rfl⟩
      · exact h.2 i j x z hij h1 h2 g hg
      · intro h3
        have := hlt i x h1 g hg
        have := hy g h3
        omega
    · rcases key j z hz with ⟨h2, _⟩ | ⟨h2, _⟩ <;> omega
theorem RowL.blocks {w wr : World} {v : Value} {vs : List (Value × Value)} {ps : List PairB} (h : RowL w wr v vs ps) : ∀ (j : Nat) x, vs[j]? = some x → ∀ g, Bl x g → g < wr.heap.size := fun j x hx g hg => by
  obtain ⟨p, hp⟩ : ∃ p, ps[j]? = some p := ⟨_, List.getElem?_eq_getElem (by rw [← h.len]; exact (List.getElem?_eq_some_iff.1 hx).1)⟩
  obtain ⟨h1, h2⟩ := h.bytes j x p hx hp
  rcases hg with e | e
  · exact row_lt h1.2.1 _ e
  · exact row_lt h2.2.1 _ e
def ParseAns (w w' : World) (t : Bytes) (e : Ending) : Prop :=
  ∃ v vs, e = .returned (.tuple #[v, .int .i64 (parseB t).2.1, .int .i64 (parseB t).2.2]) ∧ RowL w w' v vs (parseB t).1 ∧ Apart vs

theorem cutp_any (w : World) (s : ByteArray) :
    Calls Tryz.prog 20 #[.string s, .string ⟨#[99, 111, 112, 112, 105, 99, 101, 32]⟩] w fun e w' => (∃ W : ByteArray, W.size ≤ s.size ∧ e = .returned (.tuple #[.string W, .bool (decide (s.data.toList.take 8 = word))]) ∧ (s.data.toList.take 8 = word → W.data.toList = s.data.toList.drop 8)) ∧ w = w' := by
  refine (Tryz.strings_CutPrefix s ⟨#[99, 111, 112, 112, 105, 99, 101, 32]⟩ w).mono ?_
  rintro e w' ⟨rfl, rfl⟩
  refine ⟨⟨⟨(Lib.trimPrefix s.data.toList word).toArray⟩, ?_, ?_, ?_⟩, rfl⟩
  · have h1 := Lib.trimPrefix_le s.data.toList word
    have h3 : s.data.toList.length = s.size := by simp
    show (Lib.trimPrefix s.data.toList word).length ≤ _
    omega
  · have h1 := prefix_lib word s.data.toList
    show _ = Ending.returned (.tuple #[_, .bool (decide (s.data.toList.take word.length = word))])
    rw [← h1]; rfl
  · intro h
    show Lib.trimPrefix s.data.toList word = _
    rw [trim_lib (p := word) h]; rfl

set_option maxRecDepth 100000 in
set_option maxHeartbeats 8000000 in
theorem parse_any (w : World) (hE : Env w) (s : ByteArray) (hs : s.size ≤ 134217728) :
    Calls Tryz.prog 7 #[.string s] w fun e w' => ParseAns w w' s.data.toList e ∧ Chg (fun _ => False) w w' := by
  have HE := Lib.hid hE
  clear hE
  obtain ⟨i1, hi', hz0, hz1, hz2⟩ := info_parts info44
  go_enter Tryz.func7, Tryz.ntmps7
  go_wp2_with (go_at_call 19; refine (cut_any _ HE.out s 10 (by omega)).mono ?_)
  rintro e w1 ⟨hans, hc1⟩
  have C1 := Lib.hid hc1
  clear hc1
  rcases hans with ⟨hcut, rfl⟩ | ⟨ka, kb, hcut, rfl⟩
  · have HB : Hid (parseB s.data.toList = ([], 1, 200)) := Lib.hid (by unfold parseB; rw [hcut])
    clear hcut
    go_wp2_with (first
      | (go_at_call 20; refine (cutp_any _ s).mono ?_; rintro e w' ⟨⟨W, hWs, rfl, _⟩, rfl⟩)
      | (go_at_call 21; refine (number_any _ (HE.out.chg0 C1.out) W (by omega)).mono ?_; rintro e w2 ⟨rfl, hc2⟩; have C2 := Lib.hid hc2; clear hc2))
    go_ret3
    exact ⟨⟨_, [], by rw [HB.out]; rfl, by rw [HB.out]; exact RowL.nil _ _, Apart.nil⟩, C1.out.trans C2.out (fun _ f => f.elim)⟩
  · have HCut := Lib.hid hcut
    have hsz := (cutAt_some hcut).1
    obtain ⟨K, hK⟩ : ∃ K : ByteArray, K = ⟨ka.toArray⟩ := ⟨_, rfl⟩
    obtain ⟨R0, hR0⟩ : ∃ R0 : ByteArray, R0 = ⟨kb.toArray⟩ := ⟨_, rfl⟩
    rw [← hK, ← hR0]
    have hlen : ka.length + kb.length + 1 = s.size := by
      have h1 := congrArg List.length hsz
      simp at h1; omega
    have HKd : Hid (K.data.toList = ka) := Lib.hid (by rw [hK])
    have HRd : Hid (R0.data.toList = kb) := Lib.hid (by rw [hR0])
    have hKs : K.size ≤ 134217728 := by have : K.size = ka.length := (by rw [hK]; rfl); omega
    have hRs : R0.size ≤ 134217728 := by have : R0.size = kb.length := (by rw [hR0]; rfl); omega
    clear hcut hsz hlen hK hR0
    cases hh : headN ka with
    | none =>
      have HB : Hid (parseB s.data.toList = ([], 1, 200)) := Lib.hid (by unfold parseB; rw [HCut.out]; simp only [hh])
      by_cases hw : ka.take 8 = word
      · have HN : Hid (numB (ka.drop 8) = none) := Lib.hid (by unfold headN at hh; rw [if_pos hw] at hh; exact hh)
        have HW := Lib.hid hw
        clear hh hw
        go_wp2_with (first
          | (go_at_call 20; refine (cutp_any _ K).mono ?_; rintro e w' ⟨⟨W, hWs, rfl, hWd⟩, rfl⟩; rw [HKd.out, decide_eq_true HW.out]; rw [HKd.out] at hWd; have HAn : Hid ((numAns W.data.toList).2 = false) := Lib.hid (by rw [hWd HW.out]; unfold numAns; rw [HN.out]); clear hWd)
          | (go_at_call 21; refine (number_any _ (HE.out.chg0 C1.out) W (by omega)).mono ?_; rintro e w2 ⟨rfl, hc2⟩; rw [HAn.out]; have C2 := Lib.hid hc2; clear hc2))
        go_ret3
        exact ⟨⟨_, [], by rw [HB.out]; rfl, by rw [HB.out]; exact RowL.nil _ _, Apart.nil⟩, C1.out.trans C2.out (fun _ f => f.elim)⟩
      · have HW := Lib.hid hw
        clear hh hw
        go_wp2_with (first
          | (go_at_call 20; refine (cutp_any _ K).mono ?_; rintro e w' ⟨⟨W, hWs, rfl, hWd⟩, rfl⟩; rw [HKd.out, decide_eq_false HW.out]; clear hWd)
          | (go_at_call 21; refine (number_any _ (HE.out.chg0 C1.out) W (by omega)).mono ?_; rintro e w2 ⟨rfl, hc2⟩; have C2 := Lib.hid hc2; clear hc2))
        go_ret3
        exact ⟨⟨_, [], by rw [HB.out]; rfl, by rw [HB.out]; exact RowL.nil _ _, Apart.nil⟩, C1.out.trans C2.out (fun _ f => f.elim)⟩
    | some n =>
      have hn := (headN_some hh).2
      have HW : Hid (ka.take 8 = word) := Lib.hid (by
        unfold headN at hh
        split at hh
        · assumption
        · cases hh)
      have HN : Hid (numB (ka.drop 8) = some n) := Lib.hid (by unfold headN at hh; rw [if_pos HW.out] at hh; exact hh)
      have HB : Hid (parseB s.data.toList = goB n 0 R0.data.toList none []) := Lib.hid (by unfold parseB; rw [HCut.out]; simp only [hh]; rw [HRd.out])
      clear hh
      go_wp2_with (first
        | (go_at_call 20; refine (cutp_any _ K).mono ?_; rintro e w' ⟨⟨W, hWs, rfl, hWd⟩, rfl⟩; rw [HKd.out, decide_eq_true HW.out]; rw [HKd.out] at hWd; have HAn : Hid (numAns W.data.toList = ((n : Int), true)) := Lib.hid (by rw [hWd HW.out]; unfold numAns; rw [HN.out]); clear hWd)
        | (go_at_call 21; refine (number_any _ (HE.out.chg0 C1.out) W (by omega)).mono ?_; rintro e w2 ⟨rfl, hc2⟩; rw [HAn.out]; have C2 := Lib.hid (C1.out.trans hc2 (fun _ f => f.elim)); clear hc2))
      obtain ⟨A, hA⟩ : ∃ A, A = parseB s.data.toList := ⟨_, rfl⟩
      have HA := Lib.hid hA
      clear hA
      go_loopg [5, 6, 7, 12, 13, 14, 15, 16, 44] n (fun gm _ rv _ lv mv _ _ _ iv wr => ∃ (i : Nat) (R : ByteArray) (acc : List PairB) (vs : List (Value × Value)) (last : Option Bytes), i ≤ n ∧ gm = n - i ∧ iv = .int .i64 i ∧ rv = .string R ∧ R.size ≤ 134217728 ∧ acc.length = i ∧ (i ≤ 134217728) ∧ R.size + i ≤ 134217728 ∧ goB (n - i) i R.data.toList last acc = A ∧ RowL w wr lv vs acc ∧ Apart vs ∧ LastIs wr mv (decide (i = 0)) last ∧ Chg (fun _ => False) w wr)
      case atStart => exact ⟨0, R0, [], [], none, by omega, rfl, rfl, rfl, hRs, rfl, by omega, by omega, by rw [HA.out, HB.out]; rfl, RowL.nil _ _, Apart.nil, ⟨rfl, none, 0, 0, rfl⟩, C2.out⟩
      case round =>
        obtain ⟨i, R, acc, vs, last, hi, hg, rfl, rfl, hRsz, hal, hib, hRi, hgo, hrow, hap, hlast, hch⟩ := hrel
        have HAp := Lib.hid hap
        have Hg := Lib.hid hg
        have HGo := Lib.hid hgo
        have HRow := Lib.hid hrow
        have HLast := Lib.hid hlast
        have HCh := Lib.hid hch
        obtain ⟨sa, sc, rfl⟩ := hrow.shape
        obtain ⟨ma, mn, mc, rfl⟩ := hlast.slice
        clear hg hgo hrow hap hlast hch
        by_cases hlt : i < n
        · have hki : (i : Int) < (n : Int) := by omega
          have hk0 : (0 : Int) ≤ (i : Int) := by omega
          obtain ⟨m, hm⟩ : ∃ m, n - i = m + 1 := ⟨n - i - 1, by omega⟩
          have HM := Lib.hid hm
          have HEr := Lib.hid (HE.out.chg0 HCh.out)
          clear hm
          go_wp2_with (go_at_call 19; refine (cut_any _ HEr.out R 10 (by omega)).mono ?_)
          rintro e w3 ⟨hans, hc3⟩
          have C3 := Lib.hid hc3
          clear hc3
          rcases hans with ⟨hcut, rfl⟩ | ⟨la, lb, hcut, rfl⟩
          · have HAe : Hid (A = ([], i + 2, 200)) := Lib.hid (by rw [← HGo.out, HM.out]; unfold goB; rw [hcut])
            clear hcut
            go_wp2_with fail
            go_ret3
            refine ⟨⟨_, [], ?_, by rw [← HA.out, HAe.out]; exact RowL.nil _ _, Apart.nil⟩, HCh.out.trans C3.out (fun _ f => f.elim)⟩
            rw [← HA.out, HAe.out]
            rfl
          · have HCut2 := Lib.hid hcut
            have hsz := (cutAt_some hcut).1
            obtain ⟨L, hL⟩ : ∃ L : ByteArray, L = ⟨la.toArray⟩ := ⟨_, rfl⟩
            obtain ⟨R2, hR2⟩ : ∃ R2 : ByteArray, R2 = ⟨lb.toArray⟩ := ⟨_, rfl⟩
            rw [← hL, ← hR2]
            have hlen : la.length + lb.length + 1 = R.size := by
              have h1 := congrArg List.length hsz
              simp at h1; omega
            have HLd : Hid (L.data.toList = la) := Lib.hid (by rw [hL])
            have HR2d : Hid (R2.data.toList = lb) := Lib.hid (by rw [hR2])
            have hLs : L.size ≤ 134217728 := by have : L.size = la.length := (by rw [hL]; rfl); omega
            have hR2s : R2.size + 1 ≤ R.size := by have : R2.size = lb.length := (by rw [hR2]; rfl); omega
            have HLast2 : Hid (LastIs w3 (.slice ma mn mc) ((i : Int) == 0) last) := Lib.hid (by
              have e1 : ((i : Int) == 0) = decide (i = 0) := by
                rw [Bool.eq_iff_iff, beq_iff_eq, decide_eq_true_eq]; omega
              rw [e1]; exact HLast.out.chg0 C3.out)
            clear hcut hsz hlen hL hR2
            go_wp2_with (go_at_call 22; refine (pairOf_any _ (HEr.out.chg0 C3.out) L (by omega) _ _ last HLast2.out).mono ?_)
            rintro e w5 ⟨⟨_, _, ⟨k1, k2, k3, rfl⟩, ⟨u1, u2, u3, rfl⟩, rfl, hgood⟩, hc5⟩
            rw [HLd.out] at hgood ⊢
            have HGood := Lib.hid hgood
            have C5 := Lib.hid (C3.out.trans hc5 (fun _ f => f.elim))
            obtain ⟨c, hc⟩ : ∃ c, c = (lineB la last).2 := ⟨_, rfl⟩
            rw [← hc]
            have HCc := Lib.hid hc
            have HStep : Hid (A = if c = 0 then goB m (i + 1) lb (some (lineB la last).1.1) (acc ++ [(lineB la last).1]) else ([], i + 2, c)) := Lib.hid (by rw [← HGo.out, HM.out, HCc.out]; conv => lhs; unfold goB; rw [HCut2.out])
            clear hgood hc5 hc
            by_cases hc0 : c = 0
            · subst hc0
              obtain ⟨gk, gu, gd⟩ := HGood.out HCc.out.symm
              have HAp2 : Hid (Apart (vs ++ [(.slice k1 k2 k3, .slice u1 u2 u3)])) := Lib.hid (HAp.out.push (B := w3.heap.size) (fun j x hx g hg => Nat.lt_of_lt_of_le (HRow.out.blocks j x hx g hg) C3.out.size) (fun g hg => hg.elim (gk.2.2 g) (gu.2.2 g)) gd)
              clear gd
              have GK := Lib.hid (gk.since (w0 := w) (Nat.le_trans HCh.out.size C3.out.size))
              have GU := Lib.hid (gu.since (w0 := w) (Nat.le_trans HCh.out.size C3.out.size))
              have hr5 := HRow.out.chg0 C5.out
              have HR5 := Lib.hid hr5
              have HO5 : Hid (w5.ownsRow 0 54 2 (.slice sa i sc) i (pCells vs)) := Lib.hid (by have := hr5.row; rw [hal] at this; exact this)
              have HAe : Hid (A = goB m (i + 1) lb (some (lineB la last).1.1) (acc ++ [(lineB la last).1])) := Lib.hid (by rw [HStep.out, if_pos rfl])
              clear gk gu hr5
              go_wp2_with (first
                | (at_builtin; (refine wpList_append_lies _ rfl _ _ _ rfl 0 54 i1 _ 2 48 Tryz.underlying22 hi' hz0 hz1 hz2 rfl (by omega) (.slice sa i sc) i (pCells vs) (by rfl) ((HO5.out.alloc _).alloc _) ⟨w5.heap.size + 1, 0, none⟩ 1 1 [.slice k1 k2 k3, .slice u1 u2 u3] (by rfl) (by rfl) (World.news_of_block (cs := #[.slice k1 k2 k3, .slice u1 u2 u3]) (t := 54) (fr := (0, 0)) (heap_alloc_new2 w5 _ _)) (by simp [Value.oneCell']) (by omega) (by unfold maxLen; omega) (by omega) (Nat.zero_le _) (w5.heap.size + 1 + 1) ((Array.size_push _).trans (congrArg (· + 1) (Array.size_push _))) ?_; intro g' cap' w6 hr6 hg6 hat6 hlt6; have HR6 := Lib.hid hr6; have HA6 := Lib.hid hat6; have C6 : Hid (Chg (fun k => (Value.slice sa i sc).ownBlock = some k) w5 w6) := Lib.hid ((((Chg.refl (fun k => (Value.slice sa i sc).ownBlock = some k) w5).alloc _).alloc _).grown hg6 (fun k e => .inl e)); have hb6 : w6.heap[w5.heap.size]? = some (.cells #[.slice k1 k2 k3, .slice u1 u2 u3] 54) := (hg6.block w5.heap.size (by simp; omega) (fun e => by have := row_lt HO5.out _ e.symm; omega)).trans (heap_alloc_keep _ (heap_alloc_new w5 _)); have c6 : w6.cell? ⟨w5.heap.size, 0, none⟩ = some (.slice k1 k2 k3) := (by rw [Lib.cell_of_heap hb6]; rfl); clear hr6 hg6 hat6 hb6))
                | fail)
              go_roundg (n - (i + 1))
              case measure => have := Hg.out; omega
              case rel =>
                have hw5 : w.heap.size ≤ w5.heap.size := Nat.le_trans HCh.out.size C5.out.size
                have hpush := HR5.out.push (v' := .slice (some ⟨g', 0, none⟩) (acc.length + 1) cap') GK.out GU.out ⟨_, _, rfl⟩ (by rw [hal]; exact HR6.out) (by rw [hal]; exact C6.out) (fun g e => by
                  simp only [Value.ownBlock, Option.some.injEq] at e
                  rw [hal, ← e]
                  exact HA6.out.imp id (fun h => by omega))
                refine ⟨i + 1, R2, acc ++ [(lineB la last).1], vs ++ [(.slice k1 k2 k3, .slice u1 u2 u3)], some (lineB la last).1.1, by omega, rfl, by go_num, rfl, by omega, by simp [hal], by omega, by omega, ?_, ?_, HAp2.out, ?_, ?_⟩
                · rw [HAe.out, HR2d.out]
                  congr 1
                  have := HM.out; omega
                · rw [hal] at hpush; exact hpush
                · refine ⟨by rw [decide_eq_false_iff_not]; omega, ?_⟩
                  exact (GK.out.chg C6.out (fun g e f => row_ne GK.out.2.1 HO5.out (by decide) g e f)).sees
                · exact (HCh.out.trans C5.out (fun _ f => f.elim)).trans C6.out (fun x e => .inr (HRow.out.own x (by rw [hal]; exact e)))
            · have hcb : (c == 0) = false := by rw [beq_eq_false_iff_ne]; exact hc0
              have HAe : Hid (A = ([], i + 2, c)) := Lib.hid (by rw [HStep.out, if_neg hc0])
              clear hc0
              go_wp2_with fail
              go_ret3
              refine ⟨⟨_, [], ?_, by rw [← HA.out, HAe.out]; exact RowL.nil _ _, Apart.nil⟩, (HCh.out.trans C5.out (fun _ f => f.elim)).alloc _⟩
              rw [← HA.out, HAe.out]
              rfl
        · have hin : i = n := by omega
          subst hin
          have HAe : Hid (A = if R.data.toList = [] then (acc, 0, 0) else ([], i + 2, 200)) := Lib.hid (by rw [← HGo.out, Nat.sub_self]; rfl)
          by_cases hR : R.data.toList = []
          · have hRe : R = ⟨#[]⟩ := by
              obtain ⟨⟨l⟩⟩ := R
              simp only at hR
              rw [hR]
            subst hRe
            have HAf : Hid (A = (acc, 0, 0)) := Lib.hid (by rw [HAe.out]; rfl)
            have HO5 : Hid (wr.ownsRow 0 54 2 (.slice sa i sc) i (pCells vs)) := Lib.hid (by have := HRow.out.row; rw [hal] at this; exact this)
            clear hR HAe
            obtain ⟨B, hB⟩ : ∃ B, B = wr.heap.size := ⟨_, rfl⟩
            have HB2 := Lib.hid hB
            clear hB
            cases sa with
            | none =>
              have hi0 : i = 0 := by
                rcases HO5.out.2 with ⟨_, e⟩ | ⟨g, _, _, e, _⟩
                · exact e
                · cases e
              obtain rfl : acc = [] := List.eq_nil_of_length_eq_zero (by omega)
              subst hi0
              go_wp2_with (at_make; refine wpList_make_own _ rfl _ _ 22 rfl 0 54 i1 _ 2 Tryz.underlying22 hi' hz0 hz1 .i64 .i64 _ 0 rfl rfl (by simp) (by omega) (by unfold maxLen; omega) (Nat.zero_le _) ?_; intro w6 hown6 hg6; rw [← HB2.out] at hown6 ⊢; have HR6 := Lib.hid hown6; have HG6 := Lib.hid hg6; clear hown6 hg6)
              go_ret3
              refine ⟨⟨_, [], by rw [← HA.out, HAf.out]; rfl, ?_, Apart.nil⟩, HCh.out.grown HG6.out (fun k e => by cases e)⟩
              rw [← HA.out, HAf.out]
              exact ⟨⟨_, _, rfl⟩, HR6.out, rfl, fun g e => (by have e2 : B = g := (by simpa [Value.ownBlock] using e); have := HCh.out.size; have := HB2.out; omega), fun j x p h => by simp at h⟩
            | some sad =>
              have hcs : ∀ (j : Nat) (u : Value), (pCells vs)[j]? = some u → wr.cell? (sad.add j) = some u := fun j u hu => by
                rcases HO5.out.2 with ⟨e, _⟩ | ⟨g, cp, cur, e, _⟩
                · cases e
                · cases e
                  have hj : j < i * 2 := by
                    have h1 := (List.getElem?_eq_some_iff.1 hu).1
                    have h2 := HO5.out.1
                    omega
                  rw [addr_add, Nat.zero_add, HO5.out.cellAt j hj, hu]
              have HCs := Lib.hid hcs
              have HOne : Hid (∀ u ∈ pCells vs, u.oneCell' = true) := Lib.hid (fun u hu => by
                unfold pCells at hu
                rw [List.mem_flatMap] at hu
                obtain ⟨x, hx, hxu⟩ := hu
                obtain ⟨j, hj, e⟩ := List.getElem_of_mem hx
                have hj2 : j < acc.length := by rw [← HRow.out.len]; exact hj
                obtain ⟨n1, n2⟩ := HRow.out.bytes j x acc[j] (by rw [List.getElem?_eq_getElem hj, e]) (List.getElem?_eq_getElem hj2)
                obtain ⟨a1, c1, e1⟩ := n1.1
                obtain ⟨a2, c2, e2⟩ := n2.1
                simp only [List.mem_cons, List.mem_nil_iff, or_false] at hxu
                rcases hxu with h | h
                · rw [h, e1]; rfl
                · rw [h, e2]; rfl)
              have HPl : Hid ((pCells vs).length = i * 2) := Lib.hid (by rw [pCells_length, HRow.out.len, hal])
              clear hcs
              go_wp2_with (first
                | (at_make; refine wpList_make_own _ rfl _ _ 22 rfl 0 54 i1 _ 2 Tryz.underlying22 hi' hz0 hz1 .i64 .i64 _ i rfl rfl (by simp) (by rw [hz2]; omega) (by unfold maxLen; omega) (Nat.zero_le _) ?_; intro w6 hown6 hg6; rw [← HB2.out] at hown6 ⊢; have HR6 := Lib.hid hown6; have HG6 := Lib.hid hg6; clear hown6 hg6)
                | (at_builtin; (refine wpList_append_own_at _ rfl _ _ 22 rfl 0 54 i1 _ 2 48 Tryz.underlying22 hi' hz0 hz1 hz2 rfl (by decide) (.slice (some ⟨B, 0, none⟩) 0 i) 0 [] (by rfl) HR6.out sad i sc (pCells vs) rfl HPl.out (fun j u hu => HG6.out.cell (HCs.out j u hu) (by simp)) HOne.out (by unfold maxLen; omega) (by omega) (Nat.zero_le _) ?_; intro v' w7 hown7 hg7 hnil7 hat7; have HR7 := Lib.hid hown7; have HG7 := Lib.hid hg7; have HA7 := Lib.hid hat7; clear hown7 hg7 hnil7 hat7)))
              go_ret3
              have hC6 : Chg (fun _ => False) w w6 := HCh.out.grown HG6.out (fun k e => by cases e)
              have hB : w.heap.size ≤ B := by have := HCh.out.size; have := HB2.out; omega
              have hC7 : Chg (fun _ => False) w w7 := hC6.grown HG7.out (fun k e => .inr (by have e2 : B = k := (by simpa [Value.ownBlock] using e); omega))
              have hrow7 := HR7.out
              rw [Nat.zero_add, List.nil_append] at hrow7
              obtain ⟨a7, c7, rfl, _⟩ := ownsRow_slice hrow7
              have HCB : Chg (fun x => x = B) wr w7 := ((Chg.refl (fun x => x = B) wr).grown HG6.out (fun k e => by cases e)).grown HG7.out (fun k e => .inl (by simpa [Value.ownBlock, eq_comm] using e))
              have hHO := HRow.out.chg HCB (fun k e => .inr (by have := HB2.out; omega))
              refine ⟨⟨.slice a7 i c7, vs, by rw [← HA.out, HAf.out]; rfl, ?_, HAp.out⟩, hC7⟩
              rw [← HA.out, HAf.out]
              refine ⟨⟨a7, c7, by rw [hal]⟩, by rw [hal]; exact hrow7, HRow.out.len, fun g e => ?_, hHO.bytes⟩
              rcases HA7.out with e2 | e2
              · rw [e2] at e
                have e3 : B = g := by simpa [Value.ownBlock] using e
                omega
              · rw [e2] at e
                simp only [Option.some.injEq] at e
                have := hC6.size
                omega
          · have hRb : (R.toList == []) = false := by rw [Lib.toList_data, beq_eq_false_iff_ne]; exact hR
            have HAf : Hid (A = ([], i + 2, 200)) := Lib.hid (by rw [HAe.out, if_neg hR])
            clear hR HAe
            go_wp2_with fail
            go_ret3
            refine ⟨⟨_, [], ?_, by rw [← HA.out, HAf.out]; exact RowL.nil _ _, Apart.nil⟩, HCh.out⟩
            rw [← HA.out, HAf.out]
            rfl
end Go.Proofs.YteejkkidnohcfaaGreatDoor
