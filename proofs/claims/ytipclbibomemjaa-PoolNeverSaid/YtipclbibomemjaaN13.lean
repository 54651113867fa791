/- Walks: the law PoolNever. -/
import Derived.Test.YtipclbibomemjaaN12
import Derived.Test.YtipclbibomemjaaQ3
namespace Go.Proofs.Ytipclbibomemjaa
open Go Go.RowKit Go.Maps

/-- Turns as they lie. -/
def TurnsA (w : World) (v : Value) (ts : List Turn) : Prop :=
  ∃ a cap, v = .slice a ts.length cap ∧ (0 < ts.length → ∃ g off, a = some ⟨g, off, none⟩ ∧ ∀ (i : Nat) (t : Turn), ts[i]? = some t →
    w.cell? ⟨g, off + i * 4, none⟩ = some (.int .i64 t.want) ∧ w.cell? ⟨g, off + i * 4 + 1, none⟩ = some (.int .i64 t.give) ∧ w.cell? ⟨g, off + i * 4 + 2, none⟩ = some (.int .i64 t.pin) ∧ w.cell? ⟨g, off + i * 4 + 3, none⟩ = some (.int .i64 t.unpin) ∧ t.ok)

def never0 (count cap : Int) : Prop := 2 ≤ count ∧ count ≤ 2000 ∧ count ≤ cap ∧ cap ≤ 20000
set_option maxRecDepth 100000 in
theorem never_few (w : World) (count cap : Int) (v : Value) (hno : ¬ never0 count cap) : Calls Try.prog 5 #[.int .i64 count, .int .i64 cap, v] w (fun e w' => e = .returned (.bool true) ∧ Below w.heap.size w w') := by
  unfold never0 at hno
  by_cases h1 : count < 2
  · clear hno
    go_enter Try.func5, Try.ntmps5
    go_wp2_with (go_at_call 7; refine (first_any _).mono ?_; rintro e wa ⟨rfl, ba⟩; have BA := Lib.hid ba; clear ba)
    go_ret
    exact ⟨rfl, BA.out⟩
  · by_cases h2 : 2000 < count
    · clear hno
      go_enter Try.func5, Try.ntmps5
      go_wp2_with (go_at_call 7; refine (first_any _).mono ?_; rintro e wa ⟨rfl, ba⟩; have BA := Lib.hid ba; clear ba)
      go_ret
      exact ⟨rfl, BA.out⟩
    · by_cases h3 : cap < count
      · clear hno
        go_enter Try.func5, Try.ntmps5
        go_wp2_with (go_at_call 7; refine (first_any _).mono ?_; rintro e wa ⟨rfl, ba⟩; have BA := Lib.hid ba; clear ba)
        go_ret
        exact ⟨rfl, BA.out⟩
      · have h4 : 20000 < cap := by omega
        clear hno
        go_enter Try.func5, Try.ntmps5
        go_wp2_with (go_at_call 7; refine (first_any _).mono ?_; rintro e wa ⟨rfl, ba⟩; have BA := Lib.hid ba; clear ba)
        go_ret
        exact ⟨rfl, BA.out⟩

/-- A new life. -/
def own0 (xb pb m1 m2 : Nat) : OwnR := fun k => if k = xb then some 0 else if k = pb then some 1 else if k = m1 then some 2 else if k = m2 then some 3 else none
def S0 (count cap : Int) : LS := { P := PS.new count cap [], mine := news 2 (count.toNat - 2), L := [], ver := 0 }
theorem s0_fit {count cap : Int} (h : never0 count cap) : (S0 count cap).fit 0 := by
  obtain ⟨h1, h2, h3, h4⟩ := h
  have hn : newOk count cap [] := ⟨h1, h3, by omega, rfl⟩
  refine ⟨new_ok hn, by show cap.toNat ≤ 20000; omega, by show count.toNat ≤ cap.toNat; omega, Nat.le_refl _, Nat.le_refl _, List.Perm.refl _, ?_, fun x hx => ?_, (fun x hx q hq => by cases hq), Nat.le_refl _, ?_⟩
  · show (news 2 (count.toNat - 2)).Nodup
    unfold news
    exact (List.pairwise_map.2 (List.pairwise_lt_range.imp (fun h => by omega)))
  · have hx' : x ∈ news 2 (count.toNat - 2) := hx
    unfold news at hx'
    obtain ⟨i, hi, rfl⟩ := List.mem_map.1 hx'
    have := List.mem_range.1 hi
    show (2 : Int) ≤ _ ∧ _ < ((count.toNat : Nat) : Int)
    omega
  · show (news 2 (count.toNat - 2)).length + 0 + 2 = count.toNat
    rw [news_length]; omega
theorem own0_ne {xb pb m1 m2 k : Nat} (h : own0 xb pb m1 m2 k ≠ none) : k = xb ∨ k = pb ∨ k = m1 ∨ k = m2 := by
  unfold own0 at h
  by_cases e1 : k = xb
  · exact .inl e1
  by_cases e2 : k = pb
  · exact .inr (.inl e2)
  by_cases e3 : k = m1
  · exact .inr (.inr (.inl e3))
  by_cases e4 : k = m2
  · exact .inr (.inr (.inr e4))
  simp [e1, e2, e3, e4] at h
theorem life0 {w : World} {pb m1 m2 : Nat} {P : PS} (h : PoolF w pb m1 m2 P) : LifeF (w.alloc (.cells #[.pointer (some ⟨pb, 0, none⟩), .slice none 0 0, .slice none 0 0, .slice none 0 0, .slice none 0 0, .int .i64 0] 42)) (own0 w.heap.size pb m1 m2) w.heap.size pb m1 m2 ⟨P, [], [], [], [], 0⟩ (.slice none 0 0) (.slice none 0 0) (.slice none 0 0) (.slice none 0 0) := by
  obtain ⟨l0, l1, l2⟩ := h.lt
  have n0 : pb ≠ w.heap.size := by omega
  have n1 : m1 ≠ w.heap.size := by omega
  have n2 : m2 ≠ w.heap.size := by omega
  refine ⟨heap_alloc_new w _, h.chg0 ((Chg.refl _ w).alloc _), World.ownsRow_nil _ _ _ _, World.ownsRow_nil _ _ _ _, World.ownsRow_nil _ _ _ _, World.ownsRow_nil _ _ _ _, by simp [own0], by simp [own0, n0], by simp [own0, n1, h.n1], by simp [own0, n2, h.n2, h.ne.symm], (fun g e => by cases e), (fun g e => by cases e), (fun g e => by cases e), (fun g e => by cases e), fun k e => ?_⟩
  have hsz : ∀ o, (w.alloc o).heap.size = w.heap.size + 1 := fun o => Array.size_push _
  rw [hsz]
  rcases own0_ne e with e | e | e | e <;> omega

theorem pinned_good (pn : List Int) (q : Nat × Int) : pinnedK pn q.2 = !goodP pn q := by
  unfold pinnedK goodP
  induction pn with
  | nil => rfl
  | cons y l ih =>
    rw [List.any_cons, List.all_cons, ih]
    by_cases h : y < q.2
    · rw [decide_eq_true h, decide_eq_false (by omega)]; rfl
    · rw [decide_eq_false h, decide_eq_true (by omega)]; simp
theorem usable_has {P : PS} (hok : P.ok) {q : Nat × Int} (hq : q ∈ P.free) : hasK (nums P.usable) (q.1 : Int) = goodP P.pins q := by
  rw [hasK_eq, Bool.eq_iff_iff, decide_eq_true_eq]
  unfold nums
  rw [List.mem_map]
  constructor
  · rintro ⟨p, hp, e⟩
    obtain ⟨h1, h2⟩ := List.mem_filter.1 hp
    have : p = q := rise_inj hok.rise h1 hq (by omega)
    subst this; exact h2
  · intro h
    exact ⟨q, List.mem_filter.2 ⟨hq, h⟩, rfl⟩
theorem free_has {P : PS} {q : Nat × Int} (hq : q ∈ P.free) : hasK (nums P.free) (q.1 : Int) = true := by
  rw [hasK_eq]
  exact decide_eq_true (List.mem_map.2 ⟨q, hq, rfl⟩)
theorem rise_nums {L : List (Nat × Int)} (h : L.Pairwise fun p q => p.1 < q.1) : riseL (nums L) = true := by
  rw [riseL_iff]
  unfold nums
  rw [List.pairwise_map]
  exact h.imp (fun h => by omega)

set_option maxRecDepth 100000 in
set_option maxHeartbeats 16000000 in
theorem never_go (w : World) (count cap : Int) (v : Value) (ts : List Turn) (hyes : never0 count cap) (hs : TurnsA w v ts) (hol : ts.length ≤ 9223372036854775807) :
    Calls Try.prog 5 #[.int .i64 count, .int .i64 cap, v] w fun e w' => e = .returned (.bool true) ∧ Below w.heap.size w w' := by
  have HY := Lib.hid hyes
  have HS := Lib.hid hs
  obtain ⟨y1, y2, y3, y4⟩ := hyes
  obtain ⟨a4, c4, rfl, hcells⟩ := hs
  have HCells := Lib.hid hcells
  have hn : newOk count cap [] := ⟨y1, y3, by omega, rfl⟩
  have HN := Lib.hid hn
  obtain ⟨cn, rfl⟩ : ∃ cn : Nat, count = cn := ⟨count.toNat, by omega⟩
  have k1 : ¬ (cn : Int) < 2 := by omega
  have k2 : ¬ (2000 : Int) < (cn : Int) := by omega
  have k3 : ¬ cap < (cn : Int) := by omega
  have k4 : ¬ (20000 : Int) < cap := by omega
  have hz3 : ([] : List Int).length ≤ 1000000 := by simp
  clear hcells hn y1 y2 y3 y4
  go_enter Try.func5, Try.ntmps5
  go_wp2_with (first
    | (go_at_call 7; refine (first_any _).mono ?_; rintro e wa ⟨rfl, ba⟩; have BA := Lib.hid ba; clear ba)
    | fail)
  have hcA : Chg (fun _ => False) w wa := ⟨BA.out.os, BA.out.tape, BA.out.output, BA.out.size, fun k hk _ => BA.out.block k hk⟩
  refine (new_yes wa (.slice none 0 0) [] ⟨none, 0, rfl, fun _ => rfl, fun ad e => (by cases e)⟩ _ _ hz3 HN.out).mono ?_
  rintro e wb ⟨pb, m1, m2, rfl, hP, hcb, n0, n1, n2⟩
  have hl0 := life0 hP
  have hcab := hcA.trans hcb (fun _ f => f.elim)
  obtain ⟨xb, hxb⟩ : ∃ xb, xb = wb.heap.size := ⟨_, rfl⟩
  obtain ⟨wc, hwc⟩ : ∃ wc, wc = wb.alloc (.cells #[.pointer (some ⟨pb, 0, none⟩), .slice none 0 0, .slice none 0 0, .slice none 0 0, .slice none 0 0, .int .i64 0] 42) := ⟨_, rfl⟩
  rw [← hxb, ← hwc] at hl0
  have HF0 := Lib.hid hl0
  have HC0 : Hid (Chg (fun _ => False) w wc) := Lib.hid (by rw [hwc]; exact hcab.alloc _)
  have HNw : Hid (∀ k, own0 xb pb m1 m2 k ≠ none → w.heap.size ≤ k) := Lib.hid (fun k e => by
    have h1 := hcA.size
    have h2 := hcab.size
    rcases own0_ne e with e | e | e | e <;> omega)
  have Hxb := Lib.hid hxb
  have Hwc := Lib.hid hwc
  have z0 := hl0.cells.1
  have hz0 : (wb.alloc (.cells #[.pointer (some ⟨pb, 0, none⟩), .slice none 0 0, .slice none 0 0, .slice none 0 0, .slice none 0 0, .int .i64 0] 42)).cell? ⟨wb.heap.size, 0, none⟩ = some (.pointer (some ⟨pb, 0, none⟩)) := by rw [← hwc, ← hxb]; exact z0
  clear hcA hP hcb n0 n1 n2 hl0 hcab hxb hwc z0
  go_wp2_with fail
  try rw [← Hxb.out]
  rw [← Hwc.out]
  clear hz0
  go_loopg [9] (cn - 2) (fun gm iv wr => ∃ (k : Nat) (own : OwnR) (mv : Value), k ≤ cn - 2 ∧ gm = cn - 2 - k ∧ iv = .int .i64 ((k + 2 : Nat) : Int) ∧ LifeF wr own xb pb m1 m2 ⟨PS.new cn cap [], news 2 k, [], [], [], 0⟩ mv (.slice none 0 0) (.slice none 0 0) (.slice none 0 0) ∧ Chg (fun _ => False) w wr ∧ ∀ k, own k ≠ none → w.heap.size ≤ k)
  case atStart => exact ⟨0, _, _, by omega, rfl, rfl, HF0.out, HC0.out, HNw.out⟩
  case round =>
    clear HF0 HC0 HNw
    obtain ⟨k, own, mv, hk, hg, rfl, hF, hch, hnw⟩ := hrel
    have Hg := Lib.hid hg
    have HF := Lib.hid hF
    have HC := Lib.hid hch
    have HNw := Lib.hid hnw
    obtain ⟨c0, c1, _, _, _, _, cf⟩ := hF.cells
    have f1 := cf 1
    obtain ⟨ma, mc, hmv, _⟩ := ownsRow_slice hF.mine
    have hmv' : mv = .slice ma k mc := by rw [hmv]; show Value.slice ma (news 2 k).length mc = _; rw [news_length]
    subst hmv'
    have HRow : Hid (wr.ownsRow 0 3 1 (.slice ma k mc) (news 2 k).length ((news 2 k).map (Value.int .i64))) := Lib.hid hF.mine
    obtain ⟨kk, hkk⟩ : ∃ kk, kk = k + 2 := ⟨_, rfl⟩
    rw [← hkk]
    have HKK := Lib.hid hkk
    clear hF hch hnw hg cf hmv hkk
    by_cases hlt : k + 2 < cn
    · have hki : (kk : Int) < (cn : Int) := by have := HKK.out; omega
      have hkb : kk ≤ 3000 := by have := HKK.out; omega
      go_wp2_with (first
        | (at_builtin; refine app_int rfl _ _ rfl (.slice ma k mc) (news 2 k) rfl HRow.out kk rfl (by rw [news_length]; omega) ?_; intro g5 cap5 w5 hr5 hc5 hat5; rw [news_length] at hr5 ⊢; have HR5 := Lib.hid hr5; have HC5 := Lib.hid hc5; have HA5 := Lib.hid hat5; have d5 : w5.cell? ⟨xb, 1, none⟩ = some (.slice ma k mc) := hc5.get_cell c1 (fun e => notx HF.out (HF.out.rm _ e) (by omega) rfl); have f5 : w5.frozen? ⟨xb, 1, none⟩ = false := (by have := hc5.get HF.out.blk (fun e => notx HF.out (HF.out.rm _ e) (by omega) rfl); simp [World.frozen?, this]); clear hr5 hc5 hat5)
        | fail)
      obtain ⟨e1, e2⟩ := HF.out.set_mine (zs := news 2 (k + 1)) (v' := .slice (some ⟨g5, 0, none⟩) (k + 1) cap5) HC5.out (fun j e => HF.out.rm j e) (by rw [news_length, news_succ, show (2 + k : Nat) = kk by rw [HKK.out]; omega]; exact HR5.out) (fun g e => by
        rw [← own_some e]
        exact HA5.out.imp (fun e => HF.out.rm _ e) (fun e => Nat.le_of_lt e))
      go_roundg (cn - 2 - (k + 1))
      case measure => have := Hg.out; omega
      case rel => exact ⟨k + 1, _, _, by omega, rfl, by rw [show ((k + 1 + 2 : Nat) : Int) = (kk : Int) + 1 by rw [HKK.out]; omega], e1, HC.out.trans e2.chg (fun j e => .inr (HNw.out j e)), fun j e => (e2.sub j e).elim (HNw.out j) (fun e3 => Nat.le_trans HC.out.size e3)⟩
    · have hkc : k = cn - 2 := by omega
      have hki : ¬ (kk : Int) < (cn : Int) := by have := HKK.out; omega
      have HFs : Hid (LifeF wr own xb pb m1 m2 (S0 cn cap).data (.slice ma k mc) (.slice none 0 0) (.slice none 0 0) (.slice none 0 0)) := Lib.hid (by
        have h1 := HF.out
        rw [hkc] at h1
        have h2 : (S0 (cn : Int) cap).data = ⟨PS.new cn cap [], news 2 (cn - 2), [], [], [], 0⟩ := by
          unfold S0 LS.data
          rw [Int.toNat_natCast]
          rfl
        rw [h2, hkc]; exact h1)
      clear HF HRow c0 c1 f1 hkc
      go_wp2_with fail
      go_loopg [10] ts.length (fun gm iv wr => ∃ (k : Nat) (S : LS) (own : OwnR) (mv fv sv pv : Value), k ≤ ts.length ∧ k ≤ 500 ∧ gm = ts.length - k ∧ iv = .int .i64 k ∧ S.fit k ∧ (S.P.cap : Int) = cap ∧ LifeF wr own xb pb m1 m2 S.data mv fv sv pv ∧ Chg (fun _ => False) w wr ∧ ∀ k, own k ≠ none → w.heap.size ≤ k)
      case atStart => exact ⟨0, S0 cn cap, own, _, _, _, _, by omega, by omega, rfl, rfl, s0_fit HY.out, by show ((cap.toNat : Nat) : Int) = cap; have := HY.out.1; have := HY.out.2.2.1; omega, HFs.out, HC.out, HNw.out⟩
      case round =>
        clear HFs HC HNw Hg
        obtain ⟨k, S, own, mv, fv, sv, pv, hk, hk5, hg, rfl, hfit, hcap, hF, hch, hnw⟩ := hrel
        have Hg := Lib.hid hg
        have HF := Lib.hid hF
        have HC := Lib.hid hch
        have HNw := Lib.hid hnw
        have HFit := Lib.hid hfit
        have HCap := Lib.hid hcap
        clear hg hF hnw hfit hcap
        by_cases hlt : k < ts.length ∧ k < 500
        · obtain ⟨hlt, hlt2⟩ := hlt
          obtain ⟨t, ht⟩ : ∃ t, ts[k]? = some t := ⟨_, List.getElem?_eq_getElem hlt⟩
          obtain ⟨g, off, e, hcs⟩ := HCells.out (by omega)
          subst e
          obtain ⟨q0, q1, q2, q3, qo⟩ := hcs k t ht
          have d0 := hch.get_cell q0 (fun f => f)
          have d1 := hch.get_cell q1 (fun f => f)
          have d2 := hch.get_cell q2 (fun f => f)
          have d3 := hch.get_cell q3 (fun f => f)
          have QO := Lib.hid qo
          have hki : (k : Int) < (ts.length : Int) := by omega
          have hki2 : (k : Int) < 500 := by omega
          have hk0 : (0 : Int) ≤ (k : Int) := by omega
          clear q0 q1 q2 q3 qo hcs ht hch
          by_cases hw3 : 3000 < t.want
          · go_wp2_with fail
            go_roundg (ts.length - (k + 1))
            case measure => have := Hg.out; omega
            case rel => exact ⟨k + 1, S, own, mv, fv, sv, pv, by omega, by omega, rfl, by go_num, ⟨HFit.out.pool, HFit.out.cap, HFit.out.size, Nat.le_succ_of_le HFit.out.pins, by have := HFit.out.wr; omega, HFit.out.perm, HFit.out.nodup, HFit.out.rng, HFit.out.dis, Nat.le_succ_of_le HFit.out.ver, HFit.out.sum⟩, HCap.out, HF.out, HC.out, HNw.out⟩
          · by_cases hg3 : 3000 < t.give
            · go_wp2_with fail
              go_roundg (ts.length - (k + 1))
              case measure => have := Hg.out; omega
              case rel => exact ⟨k + 1, S, own, mv, fv, sv, pv, by omega, by omega, rfl, by go_num, ⟨HFit.out.pool, HFit.out.cap, HFit.out.size, Nat.le_succ_of_le HFit.out.pins, by have := HFit.out.wr; omega, HFit.out.perm, HFit.out.nodup, HFit.out.rng, HFit.out.dis, Nat.le_succ_of_le HFit.out.ver, HFit.out.sum⟩, HCap.out, HF.out, HC.out, HNw.out⟩
            · have HT := Lib.hid (turn_any HF.out HFit.out (by omega) t QO.out (by omega))
              go_wp2_with fail
              have hT := HT.out
              unfold turnV at hT
              refine hT.mono ?_
              rintro e w5 ⟨rfl, S', own', mv', fv', sv', pv', hf5, hcp5, hF5, hs5⟩
              have HF5 := Lib.hid hF5
              have HFt5 := Lib.hid hf5
              have HC5 := Lib.hid (HC.out.trans hs5.chg (fun j e => .inr (HNw.out j e)))
              have HN5 : Hid (∀ j, own' j ≠ none → w.heap.size ≤ j) := Lib.hid (fun j e => (hs5.sub j e).elim (HNw.out j) (fun e3 => Nat.le_trans HC.out.size e3))
              clear hf5 hF5 hs5 hT
              go_wp2_with fail
              go_roundg (ts.length - (k + 1))
              case measure => have := Hg.out; omega
              case rel => exact ⟨k + 1, S', own', mv', fv', sv', pv', by omega, by omega, rfl, by go_num, HFt5.out, by rw [← HCap.out, hcp5], HF5.out, HC5.out, HN5.out⟩
        · have HSm : Hid S.P.small := Lib.hid ⟨HFit.out.pool, by have := HFit.out.cap; omega, by have := HFit.out.pins; omega, by have := HFit.out.wr; omega⟩
          obtain ⟨us, hus⟩ : ∃ us, nums S.P.usable = us := ⟨_, rfl⟩
          obtain ⟨fs, hfs⟩ : ∃ fs, nums S.P.free = fs := ⟨_, rfl⟩
          obtain ⟨r, hr⟩ : ∃ r, S.P.room = r := ⟨_, rfl⟩
          have HUS := Lib.hid hus
          have HFS := Lib.hid hfs
          have HRm := Lib.hid hr
          have HU1 := Lib.hid (usable_p (w := wr) (show PoolF wr pb m1 m2 S.P from HF.out.pool) HSm.out hus)
          obtain ⟨N, hN⟩ : ∃ N, N = S.L.length := ⟨_, rfl⟩
          have HNl := Lib.hid hN
          have hNb : N ≤ 20000 := by have := HFit.out.sum; have := HFit.out.size; have := HFit.out.cap; omega
          have hfl : fs.length = N := by rw [← hfs, nums_length, hN, HFit.out.perm.length_eq]
          have hul : us.length ≤ 20000 := by
            rw [← hus, nums_length]
            have h1 : S.P.usable.length ≤ S.P.free.length := List.length_filter_le _ _
            have h2 := HFit.out.perm.length_eq
            omega
          have HFL := Lib.hid hfl
          have HRf : Hid (riseL fs = true) := Lib.hid (by rw [← hfs]; exact rise_nums HFit.out.pool.rise)
          have HRu : Hid (riseL us = true) := Lib.hid (by rw [← hus]; exact rise_nums (HFit.out.pool.rise.filter _))
          have g0 := HF.out.cells.1
          have hne : ((N : Int) != (N : Int)) = false := by simp
          have hf6 : fs.length ≤ 1000000 := by omega
          have hu6 : us.length ≤ 1000000 := by omega
          have hf9 : fs.length ≤ 9223372036854775807 := by omega
          have hu9 : us.length ≤ 9223372036854775807 := by omega
          have hpn : S.P.pins.length ≤ 1000000 := by have := HFit.out.pins; omega
          clear hus hfs hr hch hN
          by_cases hlt1 : k < ts.length
          all_goals
            first
              | (have hki : (k : Int) < (ts.length : Int) := by omega
                 have hki2 : ¬ (k : Int) < 500 := by omega
                 clear hlt hlt1)
              | (have hki : ¬ (k : Int) < (ts.length : Int) := by omega
                 clear hlt hlt1)
            go_wp2_with fail
            refine HU1.out.mono ?_
            rintro e w5 ⟨a5, k5, rfl, hN5, hc5⟩
            have HK5 := Lib.hid hN5.sees
            have HF5 := Lib.hid (HF.out.chg0 hc5)
            have HC5 := Lib.hid (HC.out.trans hc5 (fun _ f => f.elim))
            have HFr := Lib.hid (free_p (w := w5) (show PoolF w5 pb m1 m2 S.P from HF5.out.pool) HSm.out HFS.out)
            have e0 := HF5.out.cells.1
            clear hN5 hc5 g0
            go_wp2_with fail
            refine HFr.out.mono ?_
            rintro e w6 ⟨a6, k6, rfl, hN6, hc6⟩
            have HK6 := Lib.hid (HK5.out.chg0 hc6)
            have hG6 := hN6.sees
            rw [HFL.out] at hG6
            have HG6 := Lib.hid hG6
            clear hG6
            have HF6 := Lib.hid (HF5.out.chg0 hc6)
            have HC6 := Lib.hid (HC5.out.trans hc6 (fun _ f => f.elim))
            obtain ⟨fa, fc, hfv, _⟩ := ownsRow_slice HF6.out.free
            have hfv' : fv = .slice fa N fc := by rw [hfv]; show Value.slice fa (nums S.L).length fc = _; rw [nums_length, ← HNl.out]
            subst hfv'
            have f2 := HF6.out.cells.2.2.1
            clear hN6 hc6 e0 HFr HK5 HF5 HC5 hfv
            rw [HFL.out]
            go_wp2_with fail
            refine (riseL_any w6 _ fs HG6.out hf6).mono ?_
            rintro e w7 ⟨rfl, hc7⟩
            rw [HRf.out]
            have HC7 := Lib.hid hc7
            have HK7 := Lib.hid (HK6.out.chg0 hc7)
            clear hc7
            go_wp2_with fail
            refine (riseL_any w7 _ us HK7.out hu6).mono ?_
            rintro e w8 ⟨rfl, hc8⟩
            rw [HRu.out]
            have hc78 := HC7.out.trans hc8 (fun _ f => f.elim)
            have HK8 := Lib.hid (HK7.out.chg0 hc8)
            have HG8 := Lib.hid (HG6.out.chg0 hc78)
            have HF8 := Lib.hid (HF6.out.chg0 hc78)
            have HC8 := Lib.hid (HC6.out.trans hc78 (fun _ f => f.elim))
            clear hc8 hc78 f2 HK7 HK6 HG6 HF6 HC6 HC7
            go_wp2_with fail
            obtain ⟨sa, sc, hsv, _⟩ := ownsRow_slice HF8.out.since
            have hsv' : sv = .slice sa N sc := by rw [hsv]; show Value.slice sa (sinces S.L).length sc = _; unfold sinces; rw [List.length_map, ← HNl.out]
            subst hsv'
            have f2 := HF8.out.cells.2.2.1
            have f3 := HF8.out.cells.2.2.2.1
            have f0 := HF8.out.cells.1
            clear hsv
            go_loopg [13] N (fun gm iv wr => ∃ i : Nat, i ≤ N ∧ gm = N - i ∧ iv = .int .i64 i ∧ w8 = wr)
            case atStart => exact ⟨0, by omega, rfl, rfl, rfl⟩
            case round =>
              clear Hg
              obtain ⟨i, hi, hg, rfl, rfl⟩ := hrel
              have Hg := Lib.hid hg
              clear hg
              by_cases hlt : i < N
              · obtain ⟨q, hq⟩ : ∃ q, S.L[i]? = some q := ⟨_, List.getElem?_eq_getElem (by rw [← HNl.out]; exact hlt)⟩
                have hqm := List.mem_of_getElem? hq
                have hqf := HFit.out.perm.mem_iff.1 hqm
                obtain ⟨gf, e, cf⟩ := pins_cell (n := N) (k := i) (x := (q.1 : Int)) (by have := HF8.out.free; change w8.ownsRow 0 3 1 (.slice fa N fc) (nums S.L).length _ at this; rw [nums_length, ← HNl.out] at this; exact this) (by show (nums S.L)[i]? = _; unfold nums; rw [List.getElem?_map, hq]; rfl)
                cases e
                obtain ⟨gs, e, cs⟩ := pins_cell (n := N) (k := i) (x := q.2) (by have := HF8.out.since; change w8.ownsRow 0 3 1 (.slice sa N sc) (sinces S.L).length _ at this; unfold sinces at this; rw [List.length_map, ← HNl.out] at this; exact this) (by show (sinces S.L)[i]? = _; unfold sinces; rw [List.getElem?_map, hq]; rfl)
                cases e
                obtain ⟨gb, hgb⟩ : ∃ gb, goodP S.P.pins q = gb := ⟨_, rfl⟩
                have H1 : Hid (hasK fs (q.1 : Int) = true) := Lib.hid (by rw [← HFS.out]; exact free_has hqf)
                have H2 : Hid (hasK us (q.1 : Int) = gb) := Lib.hid (by rw [← HUS.out, ← hgb]; exact usable_has HFit.out.pool hqf)
                have H3 : Hid (pinnedK S.P.pins q.2 = !gb) := Lib.hid (by rw [← hgb]; exact pinned_good _ _)
                have hbe : (gb == !gb) = false := by cases gb <;> rfl
                have hii : (i : Int) < (N : Int) := by omega
                have hi0 : (0 : Int) ≤ (i : Int) := by omega
                clear hq hqm hqf hgb
                go_wp2_with fail
                refine (has_any w8 _ fs HG8.out (q.1 : Int) hf9).mono ?_
                rintro e ww ⟨rfl, rfl⟩
                rw [H1.out]
                go_wp2_with fail
                refine (has_any w8 _ us HK8.out (q.1 : Int) hu9).mono ?_
                rintro e ww ⟨rfl, rfl⟩
                rw [H2.out]
                go_wp2_with fail
                refine (show Calls Try.prog 18 #[.pointer (some ⟨xb, 0, none⟩), .int .i64 q.2] w8 (fun e w' => e = .returned (.bool (pinnedK S.P.pins q.2)) ∧ w8 = w') from pinned_any HF8.out hpn q.2).mono ?_
                rintro e ww ⟨rfl, rfl⟩
                rw [H3.out]
                go_wp2_with fail
                go_roundg (N - (i + 1))
                case measure => have := Hg.out; omega
                case rel => exact ⟨i + 1, by omega, rfl, by go_num, rfl⟩
              · have hii : ¬ (i : Int) < (N : Int) := by omega
                have HFd := Lib.hid (HF8.out.chg0 (Chg.refl (fun _ => False) w8).drew)
                have HRo := Lib.hid (room_p (w := w8.drew) (show PoolF w8.drew pb m1 m2 S.P from HFd.out.pool) HSm.out HRm.out)
                have hcapb : (S.P.cap : Int) ≤ 20000 := by have := HFit.out.cap; omega
                have hcpe := HCap.out
                have hszb : S.P.size ≤ 20000 := by have := HFit.out.size; have := HFit.out.cap; omega
                have hre : (us.length : Int) + cap - (S.P.size : Int) = r := by
                  rw [← HRm.out]; unfold PS.room
                  rw [← hcpe, ← HUS.out, nums_length]
                have HRE := Lib.hid hre
                have hc0 : 0 ≤ cap ∧ cap ≤ 20000 := by omega
                have hw1 : IntKind.i64.wrap ((us.length : Int) + cap) = (us.length : Int) + cap := wrapI (by omega) (by omega)
                have hw2 : IntKind.i64.wrap ((us.length : Int) + cap - (S.P.size : Int)) = r := by rw [wrapI (by omega) (by omega)]; exact hre
                have hrr : (r == r) = true := beq_self_eq_true _
                have HW := Lib.hid (And.intro hw1 hw2)
                clear hw1 hw2 hcpe hre hc0 hcapb
                go_wp2_with fail
                obtain ⟨hw1, hw2⟩ := HW.out
                go_region_held3 (fun w' => w'.cell? ⟨xb, 0, none⟩ = some (.pointer (some ⟨pb, 0, none⟩)))
                  (first
                    | exact kx4
                    | go_keep)
                  (first
                    | (go_simp; go_at_call 19; refine HRo.out.mono ?_; rintro e w9 ⟨rfl, hc9⟩; have HF9 := Lib.hid (HFd.out.chg0 hc9); have HC9 := Lib.hid ((HC8.out.drew).trans hc9 (fun _ f => f.elim)); have kx4 := HF9.out.cells.1; clear hc9)
                    | (go_simp; go_at_call 20; refine (show Calls Try.prog 20 #[.pointer (some ⟨pb, 0, none⟩)] w9 (fun e w' => e = .returned (.int .i64 S.P.size) ∧ w9 = w') from count_any w9 pb m1 m2 S.P HF9.out.pool).mono ?_; rintro e ww ⟨rfl, rfl⟩))
                all_goals
                  clear hw1 hw2
                  go_wp2_with fail
                  go_ret
                  exact ⟨rfl, HC9.out.toBelow (fun _ f => f.elim)⟩
end Go.Proofs.Ytipclbibomemjaa
