/- The document's pool: Commit. -/
import Derived.Test.YtipclbibomemjaaV9
namespace Go.Proofs.Ytipclbibomemjaa
open Go Go.RowKit Go.Maps

theorem RF.setSize {w : World} {rb : Nat} {P : PS} {lv pv : Value} (h : RF w rb P lv pv) (n : Nat) : RF (w.setCell ⟨rb, 0, none⟩ (.int .i64 n)) rb { P with size := n } lv pv := by
  have hc : Chg (fun k => k = rb) w (w.setCell ⟨rb, 0, none⟩ (.int .i64 n)) := chg1 _
  exact ⟨by rw [heap_setCell_same _ h.blk]; rfl, ownsRow_chg h.fr hc (fun g e f => by have : g = rb := f; subst this; exact h.nl e), ownsRow_chg h.pn hc (fun g e f => by have : g = rb := f; subst this; exact h.np e), h.nl, h.np, h.ne⟩

/-- What is given out of n, so far. -/
def giv (us : List Int) (size k : Nat) : List Int := us.take k ++ news size (k - us.length)
theorem giv_old {us : List Int} {size k : Nat} {x : Int} (h : us[k]? = some x) : giv us size (k + 1) = giv us size k ++ [x] := by
  have hk := (List.getElem?_eq_some_iff.1 h).1
  unfold giv
  rw [List.take_add_one, h, show k + 1 - us.length = 0 by omega, show k - us.length = 0 by omega]
  simp [news]
theorem giv_new {us : List Int} {size k : Nat} (h : us.length ≤ k) : giv us size (k + 1) = giv us size k ++ [((size + (k - us.length) : Nat) : Int)] := by
  unfold giv
  rw [List.take_of_length_le (by omega), List.take_of_length_le (by omega), show k + 1 - us.length = (k - us.length) + 1 by omega, news_succ, List.append_assoc]
theorem giv_length (us : List Int) (size k : Nat) : (giv us size k).length = k := by
  unfold giv; rw [List.length_append, List.length_take, news_length]; omega
theorem giv_zero (us : List Int) (size : Nat) : giv us size 0 = [] := List.eq_nil_of_length_eq_zero (giv_length us size 0)
theorem giv_given (P : PS) (d : Int) (gone : List Int) : giv (nums P.usable) P.size (P.wants d gone) = P.given d gone := by
  unfold giv PS.given PS.old; rw [nums_length]
theorem given_contains {P : PS} (hok : P.ok) (d : Int) (gone : List Int) {q : Nat × Int} (hq : q ∈ P.free) : (P.given d gone).contains (q.1 : Int) = (P.old d gone).contains (q.1 : Int) := by
  unfold PS.given
  rw [List.contains_append]
  have : (news P.size (P.wants d gone - P.usable.length)).contains (q.1 : Int) = false := by
    rw [List.contains_eq_mem]
    apply decide_eq_false
    intro h
    unfold news at h
    obtain ⟨i, _, e⟩ := List.mem_map.1 h
    have := hok.hi q hq
    omega
  rw [this, Bool.or_false]
theorem stays_given {P : PS} (hok : P.ok) (d : Int) (gone : List Int) : stays P.free (P.given d gone) = stays P.free (P.old d gone) := by
  unfold stays
  exact List.filter_congr fun q hq => by rw [given_contains hok d gone hq]
theorem stays_snocq {L : List (Nat × Int)} {out : List Int} {i : Nat} {q : Nat × Int} (h : L[i]? = some q) : stays (L.take (i + 1)) out = if out.contains (q.1 : Int) then stays (L.take i) out else stays (L.take i) out ++ [q] := by
  unfold stays
  rw [List.take_add_one, h, List.filter_append]
  cases hb : out.contains (q.1 : Int) <;> simp at hb <;> simp [hb]
theorem contains_snoc {out : List Int} {k : Nat} {x y : Int} (h : out[k]? = some x) : (out.take (k + 1)).contains y = ((out.take k).contains y || x == y) := by
  rw [List.take_add_one, h, List.contains_append]
  show (_ || [x].contains y) = _
  rw [List.contains_cons, List.contains_nil, Bool.or_false, Bool.beq_comm]

theorem rcommit_no (w : World) (rb : Nat) (P : PS) (lv pv : Value) (h : RF w rb P lv pv) (hok : P.ok) (hcap : P.cap ≤ 1000000) (hp : P.pins.length ≤ 1000000) (d : Int) (v : Value) (gone : List Int) (hs : SeesI w v gone) (hl : gone.length ≤ 1000000) (ver : Int)
    (hno : P.lists d gone < 0 ∨ P.room - P.lists d gone < d) :
    Calls Try.prog 35 #[.pointer (some ⟨rb, 0, none⟩), .int .i64 d, v, .int .i64 ver] w fun e w' => e = .returned (.tuple #[.slice none 0 0, .int .i64 (P.commit d gone ver).2.1]) ∧ (P.commit d gone ver).2.2 = P ∧ (P.commit d gone ver).1 = [] ∧ Chg (fun _ => False) w w' := by
  have H := Lib.hid h
  have HS := Lib.hid hs
  have Hok := Lib.hid hok
  have hf := lists_le hok d hl
  obtain ⟨f, hfe⟩ : ∃ f, P.lists d gone = f := ⟨_, rfl⟩
  obtain ⟨r, hre⟩ : ∃ r, P.room = r := ⟨_, rfl⟩
  have hrb : -1000000 ≤ r ∧ r ≤ 3000000 := by
    rw [← hre]; unfold PS.room
    have := usable_len hok
    have := hok.size
    omega
  rw [hfe] at hno hf
  rw [hre] at hno
  have HF := Lib.hid hfe
  have HR := Lib.hid hre
  have hC : Hid (f < 0 → P.commit d gone ver = ([], 171, P)) := Lib.hid (fun h1 => by unfold PS.commit; rw [hfe, if_pos h1])
  have hC2 : Hid (¬ f < 0 → r - f < d → P.commit d gone ver = ([], 170, P)) := Lib.hid (fun h1 h2 => by unfold PS.commit; rw [hfe, hre, if_neg h1, if_pos h2])
  clear h hs hok hfe hre
  by_cases h1 : f < 0
  · clear hno
    go_enter Try.func35, Try.ntmps35
    go_wp2_with (first
      | (go_at_call 34; refine (rlists_any _ _ _ _ _ H.out Hok.out hp d _ gone HS.out hl).mono ?_; rintro e w1 ⟨rfl, hc1⟩; rw [HF.out]; have H1 := Lib.hid (H.out.chg0 hc1))
      | (go_at_call 31; refine (rroom_any _ _ _ _ _ H1.out Hok.out hcap hp).mono ?_; rintro e w2 ⟨rfl, hc2⟩; rw [HR.out]))
    go_ret2
    rw [hC.out h1]
    exact ⟨rfl, rfl, rfl, hc1.trans hc2 (fun _ f => f.elim)⟩
  · have h2 : r - f < d := hno.resolve_left h1
    clear hno
    by_cases h3 : r < d
    · go_enter Try.func35, Try.ntmps35
      go_wp2_with (first
        | (go_at_call 34; refine (rlists_any _ _ _ _ _ H.out Hok.out hp d _ gone HS.out hl).mono ?_; rintro e w1 ⟨rfl, hc1⟩; rw [HF.out]; have H1 := Lib.hid (H.out.chg0 hc1))
        | (go_at_call 31; refine (rroom_any _ _ _ _ _ H1.out Hok.out hcap hp).mono ?_; rintro e w2 ⟨rfl, hc2⟩; rw [HR.out]))
      go_ret2
      rw [hC2.out h1 h2]
      exact ⟨rfl, rfl, rfl, hc1.trans hc2 (fun _ f => f.elim)⟩
    · have hd0 : 0 ≤ d := by
        have := (lists_facts (P := P) (d := d) (gone := gone) (by rw [HF.out]; omega)).1
        exact this
      have h4 : r < d + f := by omega
      go_enter Try.func35, Try.ntmps35
      go_wp2_with (first
        | (go_at_call 34; refine (rlists_any _ _ _ _ _ H.out Hok.out hp d _ gone HS.out hl).mono ?_; rintro e w1 ⟨rfl, hc1⟩; rw [HF.out]; have H1 := Lib.hid (H.out.chg0 hc1))
        | (go_at_call 31; refine (rroom_any _ _ _ _ _ H1.out Hok.out hcap hp).mono ?_; rintro e w2 ⟨rfl, hc2⟩; rw [HR.out]))
      go_ret2
      rw [hC2.out h1 h2]
      exact ⟨rfl, rfl, rfl, hc1.trans hc2 (fun _ f => f.elim)⟩

set_option maxRecDepth 100000 in
set_option maxHeartbeats 16000000 in
theorem rcommit_yes (w : World) (rb : Nat) (P : PS) (lv pv : Value) (h : RF w rb P lv pv) (hok : P.ok) (hcap : P.cap ≤ 1000000) (hp : P.pins.length ≤ 1000000) (d : Int) (v : Value) (gone : List Int) (hs : SeesI w v gone) (hl : gone.length ≤ 1000000) (ver : Int)
    (hfar : ∀ ad n c, v = .slice (some ad) n c → gone ≠ [] → ad.block ≠ rb) (hf0 : 0 ≤ P.lists d gone) (hf1 : d ≤ P.room - P.lists d gone) (hf2 : P.lists d gone ≤ 2000000) :
    Calls Try.prog 35 #[.pointer (some ⟨rb, 0, none⟩), .int .i64 d, v, .int .i64 ver] w fun e w' => ∃ v' lv', e = .returned (.tuple #[v', .int .i64 0]) ∧ NewI w w' v' (P.given d gone) ∧ RF w' rb (P.after d gone ver) lv' pv ∧ Chg (fun k => k = rb) w w' ∧ (∀ g, lv'.ownBlock = some g → w.heap.size ≤ g) ∧ ∀ g, v'.ownBlock = some g → lv'.ownBlock ≠ some g := by
  have H := Lib.hid h
  have HS := Lib.hid hs
  have Hok := Lib.hid hok
  have HFar := Lib.hid hfar
  obtain ⟨hd0, hrise, hany⟩ := lists_facts hf0
  have HRise := Lib.hid hrise
  have HAny := Lib.hid hany
  obtain ⟨f, hfe⟩ : ∃ f : Nat, P.lists d gone = f := ⟨(P.lists d gone).toNat, by omega⟩
  obtain ⟨r, hre⟩ : ∃ r, P.room = r := ⟨_, rfl⟩
  obtain ⟨u, hue⟩ : ∃ u, P.usable.length = u := ⟨_, rfl⟩
  have hul := usable_len hok
  have hsz := hok.size
  have hfl := hok.len
  have hrb : r = (u : Int) + P.cap - P.size := by rw [← hre, ← hue]; rfl
  rw [hfe, hre] at hf1
  rw [hfe] at hf2
  rw [hue] at hul
  obtain ⟨D, rfl⟩ : ∃ D : Nat, d = D := ⟨d.toNat, by omega⟩
  obtain ⟨n, hn⟩ : ∃ n, n = D + f := ⟨_, rfl⟩
  have HW : Hid (P.wants D gone = n) := Lib.hid (by unfold PS.wants; rw [hfe, hn]; omega)
  have HF := Lib.hid hfe
  have HR := Lib.hid hre
  have HU := Lib.hid hue
  have hnb : (n : Int) ≤ r := by omega
  have hnn : (D : Int) + (f : Int) = (n : Int) := by omega
  have t1 : ¬ r < (D : Int) := by omega
  have t2 : ¬ r < (n : Int) := by omega
  obtain ⟨us, hus⟩ : ∃ us, us = nums P.usable := ⟨_, rfl⟩
  have HUS : Hid (us.length = u) := Lib.hid (by rw [hus, nums_length]; exact hue)
  have HGiv : Hid (giv us P.size n = P.given D gone) := Lib.hid (by rw [hus, ← HW.out]; exact giv_given P D gone)
  have HUs := Lib.hid hus
  clear h hs hok hfar hf0 hfe hre hue hrise hany hn hus
  go_enter Try.func35, Try.ntmps35
  go_wp2_with (first
    | (go_at_call 34; refine (rlists_any _ _ _ _ _ H.out Hok.out hp D _ gone HS.out hl).mono ?_; rintro e w1 ⟨rfl, hc1⟩; rw [HF.out]; have H1 := Lib.hid (H.out.chg0 hc1); have C1 := Lib.hid hc1; clear hc1)
    | (go_at_call 31; refine (rroom_any _ _ _ _ _ H1.out Hok.out hcap hp).mono ?_; rintro e w2 ⟨rfl, hc2⟩; rw [HR.out]; have H2 := Lib.hid (H1.out.chg0 hc2); have C2 := Lib.hid (C1.out.trans hc2 (fun _ f => f.elim)); clear hc2)
    | (go_at_call 30; refine (rusable_any _ _ _ _ _ H2.out hfl hp).mono ?_; rintro e w3 ⟨v3, rfl, hN3, hc3⟩; rw [← HUs.out] at hN3; obtain ⟨a3, c3, rfl⟩ := hN3.slice; have H3 := Lib.hid (H2.out.chg0 hc3); have C3 := Lib.hid (C2.out.trans hc3 (fun _ f => f.elim)); have N3 : Hid (w3.ownsRow 0 3 1 (.slice a3 u c3) u (us.map (Value.int .i64)) ∧ ∀ g, (Value.slice a3 u c3).ownBlock = some g → w.heap.size ≤ g) := Lib.hid (by (have h1 := hN3.1; rw [HUS.out] at h1; exact ⟨h1, fun g e => Nat.le_trans C2.out.size (hN3.2 g (by cases a3 <;> exact e))⟩)); rw [HUS.out]; clear hN3 hc3)
    | fail)
  clear C1 C2 H1 H2
  have hltw := H.out.lt
  have L3 : Hid (∀ k, k = rb → k < w.heap.size) := Lib.hid (fun k e => by rw [e]; exact H.out.lt)
  go_loopg [14, 13] n (fun gm iv tv wr => ∃ k : Nat, k ≤ n ∧ gm = n - k ∧ iv = .int .i64 k ∧ NewI w wr tv (giv us P.size k) ∧ RF wr rb { P with size := P.size + (k - u) } lv pv ∧ Chg (fun x => x = rb) w wr ∧ (wr.ownsRow 0 3 1 (.slice a3 u c3) u (us.map (Value.int .i64)) ∧ ∀ g, (Value.slice a3 u c3).ownBlock = some g → tv.ownBlock ≠ some g))
  case atStart => exact ⟨0, by omega, rfl, rfl, by rw [giv_zero]; exact NewI.nil _ _, by rw [Nat.zero_sub]; exact H3.out, C3.out.mono (fun _ f => f.elim), N3.out.1, fun g e e2 => by cases e2⟩
  case round =>
    obtain ⟨k, hk, hg, rfl, hN, hF, hch, hR3, hdis⟩ := hrel
    have Hg := Lib.hid hg
    have HNw := Lib.hid hN
    have HFw := Lib.hid hF
    have HC := Lib.hid hch
    have HR3 := Lib.hid hR3
    have HDis := Lib.hid hdis
    obtain ⟨q0, q1, q2, q3, qf⟩ := hF.cells
    have qf0 := qf 0
    obtain ⟨ta, tc, rfl⟩ := hN.slice
    rw [giv_length] at HNw HDis ⊢
    clear hg hN hF hch hR3 hdis qf
    by_cases hlt : k < n
    · have hkI : (k : Int) < (n : Int) := by omega
      have hk0 : (0 : Int) ≤ (k : Int) := by omega
      have HNr : Hid (wr.ownsRow 0 3 1 (.slice ta k tc) (giv us P.size k).length ((giv us P.size k).map (Value.int .i64))) := Lib.hid HNw.out.1
      by_cases hku : k < u
      · obtain ⟨x, hx⟩ : ∃ x, us[k]? = some x := ⟨_, List.getElem?_eq_getElem (by rw [HUS.out]; exact hku)⟩
        have HX := Lib.hid hx
        obtain ⟨ga, e, cx⟩ := pins_cell HR3.out hx
        subst e
        have hkU : (k : Int) < (u : Int) := by omega
        clear hx
        go_wp2_with (first
          | (at_builtin; refine app_int rfl _ _ rfl (.slice ta k tc) (giv us P.size k) rfl HNr.out x rfl (by rw [giv_length]; omega) ?_; intro g5 cap5 w5 hr5 hc5 hat5; rw [giv_length] at hr5 ⊢; have HR5 := Lib.hid hr5; have HC5 := Lib.hid hc5; have HA5 := Lib.hid hat5; clear hr5 hc5 hat5)
          | fail)
        have hg5 : w.heap.size ≤ g5 ∧ g5 ≠ rb ∧ ∀ g, (Value.slice (some ⟨ga, 0, none⟩) u c3).ownBlock = some g → g5 ≠ g := by
          have h1 := HC.out.size
          rcases HA5.out with e | e
          · have h2 := HNw.out.2 _ e
            exact ⟨h2, by omega, fun g e2 e3 => HDis.out g e2 (e3 ▸ e)⟩
          · exact ⟨by omega, by omega, fun g e2 e3 => by have := ownsRow_lt HR3.out e2; omega⟩
        have hnt : ∀ g, (Value.slice (some ⟨g5, 0, none⟩) (k + 1) cap5).ownBlock = some g → g5 = g := fun g e => by
          have e2 : some g5 = some g := e
          injection e2
        go_roundg (n - (k + 1))
        case measure => have := Hg.out; omega
        case rel =>
          refine ⟨k + 1, by omega, rfl, by go_num, ⟨?_, fun g e => by rw [← hnt g e]; exact hg5.1⟩, ?_, HC.out.trans HC5.out (fun x e => .inr (HNw.out.2 x e)), ownsRow_chg HR3.out HC5.out (fun g e e2 => HDis.out g e e2), fun g e e2 => hg5.2.2 g e (hnt g e2)⟩
          · rw [giv_length, giv_old HX.out]; exact HR5.out
          · have := HFw.out.chg HC5.out (fun e => by have := HNw.out.2 _ e; omega) (fun g e e2 => by have h1 := HNw.out.2 _ e2; have h2 := ownsRow_lt H.out.fr e; omega) (fun g e e2 => by have h1 := HNw.out.2 _ e2; have h2 := ownsRow_lt H.out.pn e; omega)
            rw [show k - u = 0 by omega] at this
            rw [show k + 1 - u = 0 by omega]; exact this
      · have hkU : ¬ (k : Int) < (u : Int) := by omega
        obtain ⟨sz, hszs⟩ : ∃ sz, sz = P.size + (k - u) := ⟨_, rfl⟩
        have HSz := Lib.hid hszs
        have hsb : sz ≤ 5000000 := by omega
        have q0' : wr.cell? ⟨rb, 0, none⟩ = some (.int .i64 sz) := by rw [hszs]; exact q0
        clear hszs q0
        go_wp2_with (first
          | (at_builtin; refine app_int rfl _ _ rfl (.slice ta k tc) (giv us P.size k) rfl HNr.out sz rfl (by rw [giv_length]; omega) ?_; intro g5 cap5 w5 hr5 hc5 hat5; rw [giv_length] at hr5 ⊢; have HR5 := Lib.hid hr5; have HC5 := Lib.hid hc5; have HA5 := Lib.hid hat5; have HF5 := Lib.hid (HFw.out.chg hc5 (fun e => (by have := HNw.out.2 _ e; omega)) (fun g e e2 => (by have h1 := HNw.out.2 _ e2; have h2 := ownsRow_lt H.out.fr e; omega)) (fun g e e2 => (by have h1 := HNw.out.2 _ e2; have h2 := ownsRow_lt H.out.pn e; omega))); have d0 : w5.cell? ⟨rb, 0, none⟩ = some (.int .i64 sz) := (by rw [HSz.out]; exact HF5.out.cells.1); have df := HF5.out.cells.2.2.2.2 0; clear hr5 hc5 hat5)
          | fail)
        have hg5 : w.heap.size ≤ g5 ∧ g5 ≠ rb ∧ ∀ g, (Value.slice a3 u c3).ownBlock = some g → g5 ≠ g := by
          have h1 := HC.out.size
          rcases HA5.out with e | e
          · have h2 := HNw.out.2 _ e
            exact ⟨h2, by omega, fun g e2 e3 => HDis.out g e2 (e3 ▸ e)⟩
          · exact ⟨by omega, by omega, fun g e2 e3 => by have := ownsRow_lt HR3.out e2; omega⟩
        have hnt : ∀ g, (Value.slice (some ⟨g5, 0, none⟩) (k + 1) cap5).ownBlock = some g → g5 = g := fun g e => by
          have e2 : some g5 = some g := e
          injection e2
        go_roundg (n - (k + 1))
        case measure => have := Hg.out; omega
        case rel =>
          have hsz1 : ((sz : Int) + 1) = ((P.size + (k + 1 - u) : Nat) : Int) := by have := HSz.out; omega
          have hcs : ∀ v, Chg (fun x => x = rb) w5 (w5.setCell ⟨rb, 0, none⟩ v) := fun v => chg1 v
          refine ⟨k + 1, by omega, rfl, by go_num, ⟨?_, fun g e => by rw [← hnt g e]; exact hg5.1⟩, ?_, (HC.out.trans HC5.out (fun x e => .inr (HNw.out.2 x e))).setCell (p := ⟨rb, 0, none⟩) (.inl rfl) _, ownsRow_chg (ownsRow_chg HR3.out HC5.out (fun g e e2 => HDis.out g e e2)) (hcs _) (fun g e e2 => by have e3 : g = rb := e2; have := N3.out.2 g e; omega), fun g e e2 => hg5.2.2 g e (hnt g e2)⟩
          · rw [giv_length, giv_new (by rw [HUS.out]; omega), HUS.out, ← HSz.out]
            exact ownsRow_chg HR5.out (hcs _) (fun g e e2 => hg5.2.1 ((hnt g e).trans e2))
          · rw [hsz1]; exact HF5.out.setSize (P.size + (k + 1 - u))
    · have hkn : n = k := by omega
      subst hkn
      obtain ⟨G, hG⟩ : ∃ G, G = giv us P.size n := ⟨_, rfl⟩
      have HGG : Hid (G = P.given D gone) := Lib.hid (by rw [hG]; exact HGiv.out)
      have HGL : Hid (G.length = n) := Lib.hid (by rw [hG]; exact giv_length _ _ _)
      have NG : Hid (wr.ownsRow 0 3 1 (.slice ta n tc) n (G.map (Value.int .i64)) ∧ ∀ g, (Value.slice ta n tc).ownBlock = some g → w.heap.size ≤ g) := Lib.hid (by rw [hG]; have h1 := HNw.out.1; rw [giv_length] at h1; exact ⟨h1, HNw.out.2⟩)
      obtain ⟨fl, hfl2⟩ : ∃ fl, fl = P.free.length := ⟨_, rfl⟩
      have HFL := Lib.hid hfl2
      obtain ⟨P1, hP1⟩ : ∃ P1 : PS, P1 = { P with size := P.size + (n - u) } := ⟨_, rfl⟩
      have HP1 := Lib.hid hP1
      have F1 : Hid (RF wr rb P1 lv pv) := Lib.hid (by rw [hP1]; exact HFw.out)
      have HfP : Hid (P1.free = P.free) := Lib.hid (by rw [hP1])
      obtain ⟨la, lc, rfl, _, _, _⟩ := ownsRow_slice F1.out.fr
      have q2' : wr.cell? ⟨rb, 2, none⟩ = some (.slice la fl lc) := by
        have := F1.out.cells.2.2.1
        rw [this, HfP.out, hfl2]
      have Row1 : Hid (wr.ownsRow 0 76 2 (.slice la fl lc) fl (frow P.free)) := Lib.hid (by have := F1.out.fr; rw [HfP.out, ← hfl2] at this; exact this)
      have hfl3 : fl ≤ 1000000 := by omega
      clear hG hfl2 hP1 HFw HNw HR3 HDis q0 q1 q2 q3 qf0 Hg
      obtain ⟨w9, rfl⟩ : ∃ x, x = wr := ⟨wr, rfl⟩
      go_wp2_with fail
      go_loopg [15, 16] fl (fun gm mv iv wq => ∃ (i : Nat), i ≤ fl ∧ gm = fl - i ∧ iv = .int .i64 i ∧ NewQ w9 wq mv (stays (P.free.take i) G) ∧ Chg (fun _ => False) w9 wq)
      case atStart => exact ⟨0, by omega, rfl, rfl, NewQ.nil _ _, Chg.refl _ _⟩
      case round =>
        obtain ⟨i, hi, hg, rfl, hN, hch⟩ := hrel
        have Hg := Lib.hid hg
        have HN := Lib.hid hN
        have HCh := Lib.hid hch
        have hml : (stays (P.free.take i) G).length ≤ i := by
          refine Nat.le_trans (List.length_filter_le _ _) ?_
          rw [List.length_take]; omega
        obtain ⟨M, hM⟩ : ∃ M, M = stays (P.free.take i) G := ⟨_, rfl⟩
        rw [← hM] at HN hml
        have HM := Lib.hid hM
        obtain ⟨ma, mc, rfl, _⟩ := ownsRow_slice HN.out.1
        have d2 : wr.cell? ⟨rb, 2, none⟩ = some (.slice la fl lc) := hch.get_cell q2' (fun f => f)
        have Row2 := Lib.hid (ownsRow_chg Row1.out hch (fun _ _ f => f))
        have NG2 := Lib.hid (ownsRow_chg NG.out.1 hch (fun _ _ f => f))
        clear hg hN hch hM
        by_cases hlt : i < fl
        · obtain ⟨q, hq⟩ : ∃ q, P.free[i]? = some q := ⟨_, List.getElem?_eq_getElem (by rw [← HFL.out]; exact hlt)⟩
          obtain ⟨g, e, cq1, cq2⟩ := frow_cell Row2.out hq
          subst e
          have HQ := Lib.hid hq
          have hiI : (i : Int) < (fl : Int) := by omega
          have hi0 : (0 : Int) ≤ (i : Int) := by omega
          clear hq
          go_wp2_with fail
          go_loopg [17, 18] n (fun gm bv jv wq => ∃ (j : Nat) (bb : Bool), j ≤ n ∧ gm = n - j ∧ jv = .int .i64 j ∧ bv = .bool bb ∧ bb = (G.take j).contains (q.1 : Int) ∧ Chg (fun _ => False) w9 wq ∧ NewQ w9 wq (.slice ma M.length mc) M)
          case atStart => exact ⟨0, false, by omega, rfl, rfl, rfl, rfl, HCh.out, HN.out⟩
          case round =>
            clear HN HCh Row2 NG2 d2 cq1 cq2
            obtain ⟨j, bb, hj, hg, rfl, rfl, hb, hch2, hN2⟩ := hrel
            have Hg2 := Lib.hid hg
            have HB := Lib.hid hb
            have HCh2 := Lib.hid hch2
            have HN2 := Lib.hid hN2
            have d2 : wr.cell? ⟨rb, 2, none⟩ = some (.slice (some ⟨g, 0, none⟩) fl lc) := hch2.get_cell q2' (fun f => f)
            obtain ⟨g', e, cq1, cq2⟩ := frow_cell (ownsRow_chg Row1.out hch2 (fun _ _ f => f)) HQ.out
            cases e
            have NG2 := Lib.hid (ownsRow_chg NG.out.1 hch2 (fun _ _ f => f))
            clear hg hb hch2 hN2
            by_cases hlt2 : j < n
            · obtain ⟨y, hy⟩ : ∃ y, G[j]? = some y := ⟨_, List.getElem?_eq_getElem (by rw [HGL.out]; exact hlt2)⟩
              obtain ⟨gt, e, cy⟩ := pins_cell NG2.out hy
              subst e
              have HA := Lib.hid (contains_snoc (y := (q.1 : Int)) hy)
              have hji : (j : Int) < (n : Int) := by omega
              have hj0 : (0 : Int) ≤ (j : Int) := by omega
              clear hy
              cases bb with
              | false =>
                go_wp2_with fail
                go_quiet (fail)
                go_wp2_with fail
                go_roundg (n - (j + 1))
                case measure => have := Hg2.out; omega
                case rel => exact ⟨j + 1, _, by omega, rfl, by go_num, rfl, by rw [HA.out, ← HB.out]; rfl, HCh2.out.drewN _, HN2.out.keep ((Chg.refl (fun _ => False) wr).drewN _) (fun _ f => f.elim)⟩
              | true =>
                go_wp2_with fail
                go_quiet (fail)
                go_wp2_with fail
                go_roundg (n - (j + 1))
                case measure => have := Hg2.out; omega
                case rel => exact ⟨j + 1, _, by omega, rfl, by go_num, rfl, by rw [HA.out, ← HB.out]; rfl, HCh2.out.drewN _, HN2.out.keep ((Chg.refl (fun _ => False) wr).drewN _) (fun _ f => f.elim)⟩
            · have HGood : Hid (G.contains (q.1 : Int) = bb) := Lib.hid (by have := HB.out; rw [List.take_of_length_le (by rw [HGL.out]; omega)] at this; exact this.symm)
              have HS := Lib.hid (stays_snocq (out := G) HQ.out)
              cases bb with
              | false =>
                go_wp2_with (first
                  | (at_builtin; refine app_free rfl _ _ rfl _ M rfl (HN2.out.1) q.1 q.2 rfl (by omega) ?_; intro g5 cap5 w5 hr5 hc5 hat5; have HR5 := Lib.hid hr5; have HC5 := Lib.hid (HCh2.out.news hc5 HN2.out.2); have HA5 := Lib.hid hat5; clear hr5 hc5 hat5)
                  | fail)
                go_roundg (fl - (i + 1))
                case measure => have := Hg.out; omega
                case rel =>
                  have hMS : stays (P.free.take (i + 1)) G = M ++ [q] := by rw [HS.out, HGood.out, ← HM.out]; rfl
                  exact ⟨i + 1, by omega, rfl, by go_num, by rw [hMS]; exact HN2.out.grow (by simp) HR5.out HA5.out HCh2.out.size, HC5.out⟩
              | true =>
                go_wp2_with fail
                go_roundg (fl - (i + 1))
                case measure => have := Hg.out; omega
                case rel =>
                  have hMS : stays (P.free.take (i + 1)) G = M := by rw [HS.out, HGood.out, ← HM.out]; rfl
                  exact ⟨i + 1, by omega, rfl, by go_num, by rw [hMS]; exact HN2.out, HCh2.out⟩
        · have HMF : Hid (M = stays P.free (P.old D gone)) := Lib.hid (by rw [HM.out, List.take_of_length_le (by rw [← HFL.out]; omega), HGG.out]; exact stays_given Hok.out D gone)
          have hSQ := SeesQ.of_row HN.out.1
          have hcw : Chg (fun x => x = rb) w wr := HC.out.trans HCh.out (fun _ f => f.elim)
          have hsg := HS.out.chg hcw (fun ad n c e hne f => HFar.out ad n c e hne f)
          have hLp : M.Pairwise fun p q => p.1 < q.1 := by rw [HMF.out]; exact Hok.out.rise.filter _
          have hg0 : ∀ x ∈ gone, 0 ≤ x := fun x hx => by have := ((riseK_facts HRise.out).2 x hx).1; omega
          have hdj : ∀ x ∈ gone, ∀ q ∈ M, (q.1 : Int) ≠ x := fun x hx q hq e => by
            have h1 := List.any_eq_false.1 HAny.out x hx
            apply h1
            unfold PS.has
            rw [List.any_eq_true]
            rw [HMF.out] at hq
            exact ⟨q, (List.mem_filter.1 hq).1, by rw [beq_iff_eq]; exact e⟩
          have HLaid := Lib.hid (laid_any wr _ v M gone ver hSQ hsg (by omega) hl hLp (riseK_facts HRise.out).1 hg0 hdj)
          have HFq := Lib.hid (F1.out.chg0 HCh.out)
          obtain ⟨_, _, _, _, ff⟩ := HFq.out.cells
          clear hSQ hcw hsg hLp hg0 hdj ff
          go_wp2_with (first
            | (go_at_call 44; refine HLaid.out.mono ?_; rintro e w7 ⟨v7, rfl, hN7, hc7⟩; rw [HMF.out] at hN7; obtain ⟨R7, hR7⟩ : ∃ R7, R7 = (stays P.free (P.old D gone) ++ back gone ver).mergeSort leQ := ⟨_, rfl⟩; rw [← hR7] at hN7; have HR7 := Lib.hid hR7; clear hR7; obtain ⟨a7, c7, rfl, _⟩ := ownsRow_slice hN7.1; have H7 := Lib.hid hN7; have C7 := Lib.hid hc7; have F7 := Lib.hid (HFq.out.chg0 hc7); have e2 := F7.out.cells.2.2.1; have ef := F7.out.cells.2.2.2.2 2; clear hN7 hc7)
            | fail)
          go_ret2
          have hs1 := HC.out.size
          have hs2 := HCh.out.size
          have hs3 := C7.out.size
          have hcs : ∀ v, Chg (fun x => x = rb) w7 (w7.setCell ⟨rb, 2, none⟩ v) := fun v => chg1 v
          have hPA : P.after D gone ver = { P1 with free := R7 } := by
            unfold PS.after; rw [HP1.out, HR7.out, HW.out, HU.out]
          refine ⟨.slice ta n tc, .slice a7 R7.length c7, rfl, ⟨?_, fun g e => NG.out.2 g e⟩, ?_, ((HC.out.trans HCh.out (fun _ f => f.elim)).trans C7.out (fun _ f => f.elim)).setCell (p := ⟨rb, 2, none⟩) (.inl rfl) _, fun g e => ?_, fun g e e2 => ?_⟩
          · rw [← HGG.out, HGL.out]
            exact ownsRow_chg (ownsRow_chg (ownsRow_chg NG.out.1 HCh.out (fun _ _ f => f)) C7.out (fun _ _ f => f)) (hcs _) (fun g e e2 => by have e3 : g = rb := e2; have := NG.out.2 g e; omega)
          · rw [hPA]
            exact HFq.out.setFree C7.out (fun f => f) (fun _ _ f => f) H7.out.1 (fun g e => ⟨by have := H7.out.2 g e; omega, fun e2 => by have h1 := H7.out.2 g e; have h2 := ownsRow_lt H.out.pn e2; omega⟩)
          · have := H7.out.2 g e; omega
          · have h1 := H7.out.2 g e2
            have h2 := ownsRow_lt NG.out.1 e
            omega
end Go.Proofs.Ytipclbibomemjaa
