/- The document's pool: laid. -/
import Derived.Test.YtipclbibomemjaaV8
import Derived.Laws.AppendOwnNone
namespace Go.Proofs.Ytipclbibomemjaa
open Go Go.RowKit Go.Maps

theorem frow_one (L : List (Nat × Int)) : ∀ u ∈ frow L, u.oneCell' = true := by
  induction L with
  | nil => intro u hu; cases hu
  | cons q M ih =>
    intro u hu
    simp only [frow, List.mem_cons] at hu
    rcases hu with rfl | rfl | hu
    · rfl
    · rfl
    · exact ih u hu
theorem app_frees {wr : World} {ops : Array Oper} {rest : List Oper} {o : Oper} {a : Act} {Q : Exit → Act → World → Prop} (hgd : o.guard = none) (s x : Operand)
    (ho : o.op = .call { callee := .builtin .append, args := #[s, x], argTypes := #[62, 62] }) (v : Value) (L : List (Nat × Int)) (hs : a.eval s = v) (hrow : wr.ownsRow 0 76 2 v L.length (frow L))
    (ad : Addr) (M : List (Nat × Int)) (m c : Nat) (hx : a.eval x = .slice (some ad) m c) (hm : M.length = m) (hc : ∀ (j : Nat) (u : Value), (frow M)[j]? = some u → wr.cell? (ad.add j) = some u) (hl : L.length + m ≤ 3000000)
    (h : ∀ v' w5, w5.ownsRow 0 76 2 v' (L ++ M).length (frow (L ++ M)) → Chg (fun k => v.ownBlock = some k) wr w5 → (∀ g, v'.ownBlock = some g → v.ownBlock = some g ∨ wr.heap.size ≤ g) → wpList Try.prog ops Q rest (a.put o.dst v') w5) :
    wpList Try.prog ops Q (o :: rest) a wr := by
  obtain ⟨i1, hi', hz0, hz1, hz2⟩ := info_parts info76
  subst hm
  refine wpList_append_own_at _ hgd s x 62 ho 0 76 i1 _ 2 16 Try.underlying62 hi' hz0 hz1 hz2 rfl (by decide) v L.length (frow L) hs hrow ad M.length c (frow M) hx (frow_length M) hc (fun u hu => ?_) (by unfold maxLen; omega) (by omega) (Nat.zero_le _) ?_
  · exact frow_one M u hu
  · intro v' w5 h1 h2 h3 h4
    refine h v' w5 (by rw [List.length_append, frow_append]; exact h1) ((Chg.refl (fun k => v.ownBlock = some k) wr).grown h2 (fun k e => .inl e)) (fun g e => ?_)
    rcases h4 with e2 | e2
    · exact .inl (e2 ▸ e)
    · rw [e2] at e
      injection e with e3
      right; omega

/-- The merge so far: i of L, k of gone. -/
structure Laid (L : List (Nat × Int)) (gone : List Int) (ver : Int) (i k : Nat) (M : List (Nat × Int)) : Prop where
  perm : M.Perm (L.take i ++ back (gone.take k) ver)
  pair : M.Pairwise fun p q => p.1 < q.1
  lo : ∀ q ∈ M, ∀ p ∈ L.drop i, q.1 < p.1
  lg : ∀ q ∈ M, ∀ x ∈ gone.drop k, (q.1 : Int) < x

theorem Laid.start (L : List (Nat × Int)) (gone : List Int) (ver : Int) : Laid L gone ver 0 0 [] :=
  ⟨by simp [back], List.Pairwise.nil, (fun q h => by cases h), (fun q h => by cases h)⟩
theorem Laid.len {L : List (Nat × Int)} {gone : List Int} {ver : Int} {i k : Nat} {M : List (Nat × Int)} (h : Laid L gone ver i k M) : M.length ≤ i + k := by
  rw [h.perm.length_eq, List.length_append, back_length, List.length_take, List.length_take]; omega
theorem dropq {L : List (Nat × Int)} {i : Nat} {q : Nat × Int} (h : L[i]? = some q) : L.drop i = q :: L.drop (i + 1) := by
  obtain ⟨h1, e⟩ := List.getElem?_eq_some_iff.1 h
  rw [List.drop_eq_getElem_cons h1, e]
theorem Laid.old {L : List (Nat × Int)} {gone : List Int} {ver : Int} {i k : Nat} {M : List (Nat × Int)} (h : Laid L gone ver i k M) (hL : L.Pairwise fun p q => p.1 < q.1) (hG : gone.Pairwise fun a b => a < b) {q : Nat × Int} (hq : L[i]? = some q) {x : Int} (hx : gone[k]? = some x) (hlt : (q.1 : Int) < x) : Laid L gone ver (i + 1) k (M ++ [q]) := by
  have hd := dropq hq
  have hdx := drop_cons hx
  have hp := hL.sublist (List.drop_sublist i L)
  rw [hd, List.pairwise_cons] at hp
  have hpx := hG.sublist (List.drop_sublist k gone)
  rw [hdx, List.pairwise_cons] at hpx
  refine ⟨?_, ?_, ?_, ?_⟩
  · rw [List.take_add_one, hq]
    refine (h.perm.append_right [q]).trans ?_
    show ((L.take i ++ back (gone.take k) ver) ++ [q]).Perm ((L.take i ++ [q]) ++ back (gone.take k) ver)
    rw [List.append_assoc, List.append_assoc]
    exact List.Perm.append_left _ List.perm_append_comm
  · rw [List.pairwise_append]
    refine ⟨h.pair, by simp, fun a ha b hb => ?_⟩
    simp at hb; subst hb
    exact h.lo a ha b (by rw [hd]; simp)
  · intro p hp' r hr
    rcases List.mem_append.1 hp' with e | e
    · exact h.lo p e r (by rw [hd]; simp [hr])
    · simp at e; subst e; exact hp.1 r hr
  · intro p hp' y hy
    rcases List.mem_append.1 hp' with e | e
    · exact h.lg p e y hy
    · simp at e; subst e
      rw [hdx] at hy
      rcases List.mem_cons.1 hy with rfl | e
      · exact hlt
      · have := hpx.1 y e; omega
theorem Laid.new {L : List (Nat × Int)} {gone : List Int} {ver : Int} {i k : Nat} {M : List (Nat × Int)} (h : Laid L gone ver i k M) (hL : L.Pairwise fun p q => p.1 < q.1) (hG : gone.Pairwise fun a b => a < b) {m : Nat} (hx : gone[k]? = some (m : Int)) (hlt : ∀ q, L[i]? = some q → m < q.1) : Laid L gone ver i (k + 1) (M ++ [(m, ver)]) := by
  have hdx := drop_cons hx
  have hpx := hG.sublist (List.drop_sublist k gone)
  rw [hdx, List.pairwise_cons] at hpx
  have hgt : ∀ p ∈ L.drop i, m < p.1 := by
    intro p hp
    cases hq : L[i]? with
    | none =>
      rw [List.drop_eq_nil_of_le (List.getElem?_eq_none_iff.1 hq)] at hp; cases hp
    | some q =>
      have h1 := hlt q hq
      have hp2 := hL.sublist (List.drop_sublist i L)
      rw [dropq hq, List.pairwise_cons] at hp2
      rw [dropq hq] at hp
      rcases List.mem_cons.1 hp with rfl | e
      · exact h1
      · have := hp2.1 p e; omega
  refine ⟨?_, ?_, ?_, ?_⟩
  · rw [back_snoc ver hx, ← List.append_assoc]
    exact h.perm.append_right _
  · rw [List.pairwise_append]
    refine ⟨h.pair, by simp, fun a ha b hb => ?_⟩
    simp at hb; subst hb
    have := h.lg a ha m (by rw [hdx]; simp)
    show a.1 < m; omega
  · intro p hp' r hr
    rcases List.mem_append.1 hp' with e | e
    · exact h.lo p e r hr
    · simp at e; subst e; exact hgt r hr
  · intro p hp' y hy
    rcases List.mem_append.1 hp' with e | e
    · exact h.lg p e y (by rw [hdx]; simp [hy])
    · simp at e; subst e; exact hpx.1 y hy
theorem Laid.done {L : List (Nat × Int)} {gone : List Int} {ver : Int} {i k : Nat} {M : List (Nat × Int)} (h : Laid L gone ver i k M) (hL : L.Pairwise fun p q => p.1 < q.1) (hk : gone.length ≤ k) : M ++ L.drop i = (L ++ back gone ver).mergeSort leQ := by
  symm
  refine sort_eq ?_ ?_
  · have h1 := h.perm.append_right (L.drop i)
    refine List.Perm.symm (h1.trans ?_)
    rw [List.take_of_length_le hk, List.append_assoc]
    refine (List.Perm.append_left _ List.perm_append_comm).trans ?_
    rw [← List.append_assoc, List.take_append_drop]
  · rw [List.pairwise_append]
    exact ⟨h.pair, hL.sublist (List.drop_sublist i L), h.lo⟩

theorem frow_drop (L : List (Nat × Int)) (i j : Nat) : (frow (L.drop i))[j]? = (frow L)[i * 2 + j]? := by
  induction i generalizing L with
  | zero => simp
  | succ i ih =>
    cases L with
    | nil => simp [frow]
    | cons q l =>
      rw [List.drop_succ_cons, ih, show (i + 1) * 2 + j = (i * 2 + j) + 1 + 1 by omega]
      simp [frow]
/-- Free numbers that can be read. -/
def SeesQ (w : World) (v : Value) (L : List (Nat × Int)) : Prop :=
  ∃ a cap, v = .slice a L.length cap ∧ L.length ≤ cap ∧ (a = none → L = [] ∧ cap = 0) ∧ ∀ ad, a = some ad → ∃ g, ad = ⟨g, 0, none⟩ ∧ ∀ (j : Nat) (u : Value), (frow L)[j]? = some u → w.cell? ⟨g, j, none⟩ = some u
theorem SeesQ.chg0 {w w' : World} {v : Value} {L : List (Nat × Int)} (h : SeesQ w v L) (hc : Chg (fun _ => False) w w') : SeesQ w' v L := by
  obtain ⟨a, cap, rfl, h0, h1, h2⟩ := h
  refine ⟨a, cap, rfl, h0, h1, fun ad e => ?_⟩
  obtain ⟨g, e2, h3⟩ := h2 ad e
  exact ⟨g, e2, fun j u hu => hc.get_cell (h3 j u hu) (fun f => f)⟩
theorem SeesQ.of_row {w : World} {v : Value} {L : List (Nat × Int)} (h : w.ownsRow 0 76 2 v L.length (frow L)) : SeesQ w v L := by
  rcases h.2 with ⟨rfl, h0⟩ | ⟨g, cap, cur, rfl, hg, hh, hn, hcap, _⟩
  · have : L = [] := by
      cases L with
      | nil => rfl
      | cons q l => simp at h0
    subst this
    exact ⟨none, 0, rfl, Nat.le_refl _, fun _ => ⟨rfl, rfl⟩, fun ad e => by cases e⟩
  · refine ⟨_, cap, rfl, hn, (fun e => by cases e), fun ad e => ?_⟩
    cases e
    refine ⟨g, rfl, fun j u hu => ?_⟩
    have hj := (List.getElem?_eq_some_iff.1 hu).1
    rw [frow_length] at hj
    rw [h.cellAt j hj, hu]

theorem SeesQ.open' {w : World} {ad : Addr} {n c : Nat} {L : List (Nat × Int)} (h : SeesQ w (.slice (some ad) n c) L) : ∃ g, ad = ⟨g, 0, none⟩ ∧ ∀ (j : Nat) (u : Value), (frow L)[j]? = some u → w.cell? ⟨g, j, none⟩ = some u := by
  obtain ⟨a, cap, e, _, _, h2⟩ := h
  cases e
  exact h2 ad rfl
theorem SeesQ.at {w : World} {a : Option Addr} {n c k : Nat} {L : List (Nat × Int)} {q : Nat × Int} (h : SeesQ w (.slice a n c) L) (hq : L[k]? = some q) : ∃ g, a = some ⟨g, 0, none⟩ ∧ w.cell? ⟨g, k * 2, none⟩ = some (.int .i64 q.1) ∧ w.cell? ⟨g, k * 2 + 1, none⟩ = some (.int .i64 q.2) := by
  cases a with
  | none =>
    obtain ⟨_, _, e, _, h1, _⟩ := h
    cases e
    obtain ⟨e, _⟩ := h1 rfl
    subst e; simp at hq
  | some ad =>
    obtain ⟨g, rfl, h2⟩ := h.open'
    obtain ⟨e1, e2⟩ := frow_at hq
    exact ⟨g, rfl, h2 _ _ e1, h2 _ _ e2⟩

/-- Free numbers in memory of their own, made since w. -/
def NewQ (w w' : World) (v : Value) (L : List (Nat × Int)) : Prop := w'.ownsRow 0 76 2 v L.length (frow L) ∧ ∀ g, v.ownBlock = some g → w.heap.size ≤ g
theorem NewQ.nil (w wr : World) : NewQ w wr (.slice none 0 0) [] := ⟨World.ownsRow_nil _ _ _ _, fun g e => by cases e⟩
theorem NewQ.keep {w0 w1 w2 : World} {v : Value} {L : List (Nat × Int)} {S : Nat → Prop} (h : NewQ w0 w1 v L) (hc : Chg S w1 w2) (hs : ∀ k, S k → k < w0.heap.size) : NewQ w0 w2 v L :=
  ⟨ownsRow_chg h.1 hc (fun g e f => by have := h.2 g e; have := hs g f; omega), h.2⟩
theorem NewQ.grow {w wr w5 : World} {v : Value} {L L' : List (Nat × Int)} {g cap : Nat} (h : NewQ w wr v L) (hz : L'.length = L.length + 1) (hr : w5.ownsRow 0 76 2 (.slice (some ⟨g, 0, none⟩) (L.length + 1) cap) (L.length + 1) (frow L')) (hat : v.ownBlock = some g ∨ wr.heap.size < g) (hs : w.heap.size ≤ wr.heap.size) : NewQ w w5 (.slice (some ⟨g, 0, none⟩) (L.length + 1) cap) L' := by
  refine ⟨by rw [hz]; exact hr, fun g' e => ?_⟩
  have e2 : some g = some g' := e
  injection e2 with e3
  subst e3
  rcases hat with e | e
  · exact h.2 _ e
  · omega

set_option maxRecDepth 100000 in
set_option maxHeartbeats 8000000 in
theorem laid_any (w : World) (v1 v2 : Value) (L : List (Nat × Int)) (gone : List Int) (ver : Int) (h1 : SeesQ w v1 L) (h2 : SeesI w v2 gone) (hl1 : L.length ≤ 1000000) (hl2 : gone.length ≤ 1000000)
    (hL : L.Pairwise fun p q => p.1 < q.1) (hG : gone.Pairwise fun a b => a < b) (h0 : ∀ x ∈ gone, 0 ≤ x) (hne : ∀ x ∈ gone, ∀ q ∈ L, (q.1 : Int) ≠ x) :
    Calls Try.prog 44 #[v1, v2, .int .i64 ver] w fun e w' => ∃ v, e = .returned v ∧ NewQ w w' v ((L ++ back gone ver).mergeSort leQ) ∧ Chg (fun _ => False) w w' := by
  have H1 := Lib.hid h1
  have H2 := Lib.hid h2
  have HL := Lib.hid hL
  have HG := Lib.hid hG
  have H0 := Lib.hid h0
  have Hne := Lib.hid hne
  obtain ⟨a, c, rfl, hac, hnn, _⟩ := h1
  obtain ⟨b, d, rfl, hn, _⟩ := h2
  have Hn := Lib.hid hn
  have Hnn := Lib.hid hnn
  clear hn hnn hL hG h0 hne
  obtain ⟨R, hR⟩ : ∃ R, R = (L ++ back gone ver).mergeSort leQ := ⟨_, rfl⟩
  rw [← hR]
  have HR := Lib.hid hR
  clear hR
  go_enter Try.func44, Try.ntmps44
  go_wp2_with fail
  go_loopg [7, 8, 9] gone.length (fun gm mv iv kv wr => ∃ (i k : Nat) (M : List (Nat × Int)), k ≤ gone.length ∧ i ≤ L.length ∧ gm = gone.length - k ∧ iv = .int .i64 i ∧ kv = .int .i64 k ∧ NewQ w wr mv M ∧ Laid L gone ver i k M ∧ Chg (fun _ => False) w wr)
  case atStart => exact ⟨0, 0, [], by omega, by omega, rfl, rfl, rfl, NewQ.nil _ _, Laid.start _ _ _, Chg.refl _ _⟩
  case round =>
    obtain ⟨i, k, M, hk, hi, hg, rfl, rfl, hN, hM, hch⟩ := hrel
    have Hg := Lib.hid hg
    have HN := Lib.hid hN
    have HM := Lib.hid hM
    have HCh := Lib.hid hch
    have hml := hM.len
    obtain ⟨ma, mc, rfl, _⟩ := ownsRow_slice hN.1
    clear hg hN hM
    by_cases hlt : k < gone.length
    · obtain ⟨x, hx⟩ : ∃ x, gone[k]? = some x := ⟨_, List.getElem?_eq_getElem hlt⟩
      have hx0 := H0.out x (List.mem_of_getElem? hx)
      obtain ⟨m, rfl⟩ : ∃ m : Nat, x = m := ⟨x.toNat, by omega⟩
      have HX := Lib.hid hx
      obtain ⟨bd, rfl⟩ : ∃ bd, b = some bd := by
        cases b with
        | none => have := Hn.out rfl; subst this; simp at hlt
        | some bd => exact ⟨bd, rfl⟩
      have hki : (k : Int) < (gone.length : Int) := by omega
      have hk0 : (0 : Int) ≤ (k : Int) := by omega
      clear hx hch
      go_wp2_with fail
      go_loopg [7, 8] (L.length - i) (fun gm mv iv wq => ∃ (i2 : Nat) (M2 : List (Nat × Int)), i2 ≤ L.length ∧ gm = L.length - i2 ∧ iv = .int .i64 i2 ∧ NewQ w wq mv M2 ∧ Laid L gone ver i2 k M2 ∧ Chg (fun _ => False) w wq)
      case atStart => exact ⟨i, M, hi, rfl, rfl, HN.out, HM.out, HCh.out⟩
      case round =>
        clear hi hml HN HM HCh
        obtain ⟨i2, M2, hi2, hg2, rfl, hN2, hM2, hch2⟩ := hrel
        have Hg2 := Lib.hid hg2
        have HN2 := Lib.hid hN2
        have HM2 := Lib.hid hM2
        have HCh2 := Lib.hid hch2
        have hml2 := hM2.len
        obtain ⟨ma2, mc2, rfl, _⟩ := ownsRow_slice hN2.1
        have cy : wr.cell? (bd.add k) = some (.int .i64 m) := by
          obtain ⟨a4, c4, e4, _, h4⟩ := H2.out.chg0 hch2
          cases e4
          exact h4 bd rfl k m HX.out
        have HW1 := Lib.hid (H1.out.chg0 hch2)
        have HN2d : ∀ nq, Hid (NewQ w (wr.drewN nq) (.slice ma2 M2.length mc2) M2) := fun nq => Lib.hid (hN2.keep ((Chg.refl (fun _ => False) wr).drewN nq) (fun _ f => f.elim))
        clear hg2 hN2 hM2 hch2
        by_cases hlt2 : i2 < L.length
        · obtain ⟨q, hq⟩ : ∃ q, L[i2]? = some q := ⟨_, List.getElem?_eq_getElem hlt2⟩
          obtain ⟨g, e, cq1, cq2⟩ := HW1.out.at hq
          cases e
          have HQ := Lib.hid hq
          have hji : (i2 : Int) < (L.length : Int) := by omega
          have hj0 : (0 : Int) ≤ (i2 : Int) := by omega
          have b1 : decide (i2 < L.length) = true := decide_eq_true hlt2
          clear hq
          by_cases hqm : q.1 < m
          · have b2 : decide (q.1 < m) = true := decide_eq_true hqm
            have HNEW := Lib.hid (HM2.out.old HL.out HG.out HQ.out HX.out (by omega))
            go_wp2_with fail
            go_quiet (fail)
            have HN2e := Lib.hid (HN2d nq).out
            clear HN2d
            go_wp2_with (first
              | (at_builtin; refine app_free rfl _ _ rfl _ M2 rfl (HN2e.out.1) q.1 q.2 rfl (by omega) ?_; intro g5 cap5 w5 hr5 hc5 hat5; have HR5 := Lib.hid hr5; have HC5 := Lib.hid ((HCh2.out.drewN nq).news hc5 HN2e.out.2); have HA5 := Lib.hid hat5; clear hr5 hc5 hat5)
              | fail)
            go_roundg (L.length - (i2 + 1))
            case measure => have := Hg2.out; omega
            case rel => exact ⟨i2 + 1, M2 ++ [q], by omega, rfl, by go_num, HN2e.out.grow (by simp) HR5.out HA5.out HCh2.out.size, HNEW.out, HC5.out⟩
          · have b2 : decide (q.1 < m) = false := decide_eq_false hqm
            have HNEW := Lib.hid (HM2.out.new HL.out HG.out HX.out (fun q' hq' => by
              rw [HQ.out] at hq'; cases hq'
              have := Hne.out m (List.mem_of_getElem? HX.out) q (List.mem_of_getElem? HQ.out)
              omega))
            go_wp2_with fail
            go_quiet (fail)
            go_wp2_with (first
              | (at_builtin; refine app_free rfl _ _ rfl _ M2 rfl ((HN2d nq).out.1) m ver rfl (by omega) ?_; intro g5 cap5 w5 hr5 hc5 hat5; have HR5 := Lib.hid hr5; have HC5 := Lib.hid ((HCh2.out.drewN nq).news hc5 (HN2d nq).out.2); have HA5 := Lib.hid hat5; clear hr5 hc5 hat5)
              | fail)
            go_roundg (gone.length - (k + 1))
            case measure => have := Hg.out; omega
            case rel => exact ⟨i2, k + 1, M2 ++ [(m, ver)], by omega, by omega, rfl, rfl, by go_num, (HN2d nq).out.grow (by simp) HR5.out HA5.out HCh2.out.size, HNEW.out, HC5.out⟩
        · have b1 : decide (i2 < L.length) = false := decide_eq_false hlt2
          have HNEW := Lib.hid (HM2.out.new HL.out HG.out HX.out (fun q' hq' => by
              have := (List.getElem?_eq_some_iff.1 hq').1
              omega))
          go_wp2_with fail
          go_quiet (fail)
          go_wp2_with (first
            | (at_builtin; refine app_free rfl _ _ rfl _ M2 rfl ((HN2d nq).out.1) m ver rfl (by omega) ?_; intro g5 cap5 w5 hr5 hc5 hat5; have HR5 := Lib.hid hr5; have HC5 := Lib.hid ((HCh2.out.drewN nq).news hc5 (HN2d nq).out.2); have HA5 := Lib.hid hat5; clear hr5 hc5 hat5)
            | fail)
          go_roundg (gone.length - (k + 1))
          case measure => have := Hg.out; omega
          case rel => exact ⟨i2, k + 1, M2 ++ [(m, ver)], by omega, by omega, rfl, rfl, by go_num, (HN2d nq).out.grow (by simp) HR5.out HA5.out HCh2.out.size, HNEW.out, HC5.out⟩
    · have HDone : Hid (M ++ L.drop i = R) := Lib.hid ((HM.out.done HL.out (by omega)).trans HR.out.symm)
      have HW1 := Lib.hid (H1.out.chg0 hch)
      cases a with
      | none =>
        obtain ⟨e1, e2⟩ := Hnn.out rfl
        subst e1
        subst e2
        obtain rfl : i = 0 := by simpa using hi
        have HE : Hid (NewQ w wr (.slice ma M.length mc) R) := Lib.hid (by
          have h1 := HDone.out
          rw [List.drop_nil, List.append_nil] at h1
          rw [← h1]; exact HN.out)
        clear hch
        obtain ⟨i76, hi76, _, _, _⟩ := info_parts info76
        go_wp2_with (first
          | (at_builtin; refine wpList_append_own_none rfl _ _ 62 rfl 0 76 i76 2 Try.underlying62 hi76 (.slice ma M.length mc) M.length (frow M) rfl HN.out.1 rfl ?_)
          | fail)
        go_ret
        exact ⟨_, rfl, HE.out, HCh.out⟩
      | some ad =>
        obtain ⟨g, rfl, hcq⟩ := HW1.out.open'
        have Hcq := Lib.hid hcq
        clear hch hcq
        have hi1 : (i : Int) ≤ (L.length : Int) := by omega
        have hi0 : (0 : Int) ≤ (i : Int) := by omega
        have HLd : Hid ((L.drop i).length = L.length - i) := Lib.hid List.length_drop
        by_cases hcap : i = c
        · go_wp2_with (first
            | (at_builtin; refine app_frees rfl _ _ rfl (.slice ma M.length mc) M rfl HN.out.1 _ (L.drop i) _ _ rfl (HLd.out.trans (by first | rfl | omega)) (fun j u hu => by have h1 := (List.getElem?_eq_some_iff.1 hu).1; rw [frow_length, HLd.out] at h1; omega) (by omega) ?_; intro v5 w5 hr5 hc5 hg5; rw [HDone.out] at hr5; obtain ⟨a5, c5, rfl, _⟩ := ownsRow_slice hr5; have HR5 := Lib.hid hr5; have HC5 := Lib.hid (HCh.out.news hc5 HN.out.2); have HG5 := Lib.hid (show ∀ g, (Value.slice a5 R.length c5).ownBlock = some g → w.heap.size ≤ g from fun g e => (hg5 g e).elim (HN.out.2 g) (fun e => Nat.le_trans HCh.out.size e)); clear hr5 hc5 hg5)
            | fail)
          go_ret
          exact ⟨_, rfl, ⟨HR5.out, HG5.out⟩, HC5.out⟩
        · go_wp2_with (first
            | (at_builtin; refine app_frees rfl _ _ rfl (.slice ma M.length mc) M rfl HN.out.1 _ (L.drop i) _ _ rfl (HLd.out.trans (by first | rfl | omega)) (fun j u hu => by rw [addr_add]; exact Hcq.out (i * 2 + j) u (by rw [← frow_drop]; exact hu)) (by omega) ?_; intro v5 w5 hr5 hc5 hg5; rw [HDone.out] at hr5; obtain ⟨a5, c5, rfl, _⟩ := ownsRow_slice hr5; have HR5 := Lib.hid hr5; have HC5 := Lib.hid (HCh.out.news hc5 HN.out.2); have HG5 := Lib.hid (show ∀ g, (Value.slice a5 R.length c5).ownBlock = some g → w.heap.size ≤ g from fun g e => (hg5 g e).elim (HN.out.2 g) (fun e => Nat.le_trans HCh.out.size e)); clear hr5 hc5 hg5)
            | fail)
          go_ret
          exact ⟨_, rfl, ⟨HR5.out, HG5.out⟩, HC5.out⟩
end Go.Proofs.Ytipclbibomemjaa
