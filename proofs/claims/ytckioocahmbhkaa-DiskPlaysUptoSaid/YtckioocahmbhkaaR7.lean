/- The reference's Read. -/
import Derived.Test.YtckioocahmbhkaaR6
namespace Go.Proofs.Ytckioocahmbhkaa
open Go Go.RowKit Go.Maps Go.MuLone

theorem lastOf_at {qs : List (Nat × List UInt8)} {k : Nat} {q : Nat × List UInt8} {i : Int} (hq : qs[k]? = some q) (hi : (q.1 : Int) = i) (hn : ∀ j q', k < j → qs[j]? = some q' → (q'.1 : Int) ≠ i) : lastOf qs i = some q.2 := by
  induction qs generalizing k with
  | nil => simp at hq
  | cons q0 qs ih =>
    rw [lastOf_cons]
    cases k with
    | zero =>
      simp at hq; subst hq
      have : lastOf qs i = none := lastOf_none (fun q' h' => by
        obtain ⟨j, hj⟩ := List.mem_iff_getElem?.1 h'
        exact hn (j + 1) q' (by omega) (by simpa using hj))
      rw [this]; simp [hi]
    | succ k =>
      rw [ih (by simpa using hq) (fun j q' hj h' => hn (j + 1) q' (by omega) (by simpa using h'))]

set_option maxRecDepth 100000 in
set_option maxHeartbeats 8000000 in
theorem rread_go (w : World) (own : Own) (b : Nat) (D : DS) (h : RefAt w own b D) (hok : D.ok) (hn : D.pending.length ≤ 1000000) (i : Nat) (hi : i < D.pages) (hi2 : i ≤ 1000000) (hoff : D.off = false) :
    Calls Try.prog 40 #[.pointer (some ⟨b, 0, none⟩), .int .i64 i] w fun e w' => ∃ v, e = .returned (.tuple #[v, .int .i64 0]) ∧ Handed w w' v (D.page i) ∧ RefAt w' own b D.looked ∧ Chg (fun x => x = b) w w' := by
  have hpg := Lib.hid (rpages_any w own b D h hok)
  have hfz6 := h.cells.2.2.2.2.2 6
  obtain ⟨_, c3, _, _, c6, _⟩ := h.cells
  rw [hoff] at c3
  have hD := h
  obtain ⟨lv, pv, hF⟩ := h
  obtain ⟨c1, c2⟩ := hF.fields
  obtain ⟨la, lc, rfl⟩ := hF.last.form
  obtain ⟨pa, pc, rfl⟩ := hF.pend.form
  have Hok := Lib.hid hok
  have hbl : b < w.heap.size := hF.lt b (Own.blocks_of hF.str)
  have hln : D.lasting.length ≤ 524287 := hok.len
  obtain ⟨w1, hw1⟩ : ∃ w1, w1 = w.setCell ⟨b, 6, none⟩ (.int .i64 (wrap64 (D.reads + 1))) := ⟨_, rfl⟩
  have hF1 : RefF w1 own b D.looked (.slice la D.lasting.length lc) (.slice pa D.pending.length pc) := by rw [hw1]; exact hF.set 6 _ rfl rfl rfl ⟨hF.f0, hF.f1⟩
  have hc1 : Chg (fun x => x = b) w w1 := by rw [hw1]; exact chg1 _
  obtain ⟨k1, k2⟩ := hF1.fields
  have hbl1 : b < w1.heap.size := hF1.lt b (Own.blocks_of hF1.str)
  have HF1 := Lib.hid hF1
  have Hc1 := Lib.hid hc1
  have Hw1 := Lib.hid hw1
  have hi' : ¬ (D.pages : Int) ≤ (i : Int) := by omega
  clear hD hF hok hoff hF1 hc1 hw1 hi
  go_enter Try.func40, Try.ntmps40
  go_upto_block 0 with (go_at_call 50; refine hpg.out.mono ?_; rintro e w' ⟨rfl, rfl⟩)
  rw [← Hw1.out]
  go_wp2_with fail
  go_loopg [6] D.pending.length (fun gm iv wr => ∃ n : Nat, n ≤ D.pending.length ∧ gm = n ∧ iv = .int .i64 ((n : Int) - 1) ∧ wr = w1 ∧ ∀ j q', n ≤ j → D.pending[j]? = some q' → (q'.1 : Int) ≠ i)
  case atStart => exact ⟨D.pending.length, Nat.le_refl _, rfl, rfl, rfl, fun j q' hj h' => by have := (List.getElem?_eq_some_iff.1 h').1; omega⟩
  case round =>
    obtain ⟨n, hnl, hg, rfl, hwr, hno⟩ := hrel
    have Hg := Lib.hid hg
    have Hno := Lib.hid hno
    subst wr
    clear hg hno
    cases n with
    | zero =>
      have hnone : lastOf D.pending i = none := lastOf_none (fun q' h' => by
        obtain ⟨j, hj⟩ := List.mem_iff_getElem?.1 h'
        exact Hno.out j q' (by omega) hj)
      have HN := Lib.hid hnone
      clear hnone
      by_cases hil : i < D.lasting.length
      · obtain ⟨p, hp⟩ : ∃ p, D.lasting[i]? = some p := ⟨_, List.getElem?_eq_getElem hil⟩
        obtain ⟨lg, lc', gv, cv, e, cl, hrole, hbuf⟩ := HF1.out.last.at (L := D.lasting) hp
        cases e
        have hpl : p.length = 4096 := Hok.out.page p (List.mem_of_getElem? hp)
        have HS := Lib.hid (SeesB.of_row hbuf)
        have HP : Hid (D.page i = p) := Lib.hid (by unfold DS.page; rw [HN.out]; show D.lasting.getD i zpage = p; rw [List.getD_eq_getElem?_getD, hp]; rfl)
        have hi0 : (0 : Int) ≤ (i : Int) := Int.natCast_nonneg _
        have hi1 : (i : Int) < (D.lasting.length : Int) := by omega
        have Hpl := Lib.hid hpl
        clear hp hrole hbuf hpl
        go_wp2_with (go_at_call 28; refine (bytes_any _ _ p HS.out (by rw [Hpl.out]; omega)).mono ?_; rintro e w2 ⟨g, cg, rfl, hge, hr, hc2⟩)
        go_ret2
        refine ⟨_, rfl, ?_, ⟨_, _, HF1.out.chg hc2 (fun _ _ f => f)⟩, Hc1.out.trans hc2 (fun _ f => f.elim)⟩
        rw [HP.out]
        exact ⟨hr, fun x e => by cases e; exact Nat.le_trans Hc1.out.size hge⟩
      · have HP : Hid (D.page i = zpage) := Lib.hid (by unfold DS.page; rw [HN.out]; show D.lasting.getD i zpage = zpage; rw [List.getD_eq_getElem?_getD, List.getElem?_eq_none (by omega)]; rfl)
        go_wp2_with (go_at_call 53; refine (zeros_any _).mono ?_; rintro e w2 ⟨rfl, hz⟩)
        go_ret2
        have hc2 : Chg (fun _ => False) w1 w2 := by rw [← hz]; exact (Chg.refl _ w1).alloc _
        have hr : w2.ownsRow 0 5 1 (.slice (some ⟨w1.heap.size, 0, none⟩) 4096 4096) 4096 (bVs zpage) := by rw [← hz]; exact ownsRow_zpage w1
        refine ⟨_, rfl, ?_, ⟨_, _, HF1.out.chg hc2 (fun _ _ f => f)⟩, Hc1.out.trans hc2 (fun _ f => f.elim)⟩
        rw [HP.out]
        exact ⟨by rw [zpage_length]; exact hr, fun x e => by cases e; exact Hc1.out.size⟩
    | succ n =>
      obtain ⟨q, hq⟩ : ∃ q, D.pending[n]? = some q := ⟨_, List.getElem?_eq_getElem (by omega)⟩
      obtain ⟨pg, pc', gv, cv, e, d1, d2, ho, hr⟩ := HF1.out.pend.at (Q := D.pending) hq
      cases e
      have hv1 : (((n + 1 : Nat) : Int) - 1) = (n : Int) := by omega
      rw [hv1]
      have hn0 : (0 : Int) ≤ (n : Int) := Int.natCast_nonneg _
      have hn1 : (n : Int) < (D.pending.length : Int) := by omega
      have hqm := List.mem_of_getElem? hq
      have hql : q.2.length = 4096 := Hok.out.data q hqm
      have HS := Lib.hid (SeesB.of_row hr)
      have Hql := Lib.hid hql
      have Hq := Lib.hid hq
      clear hv1 hq hqm ho hr hql
      by_cases hqi : (q.1 : Int) = i
      · have hb1 : ((q.1 : Int) == (i : Int)) = true := by rw [beq_iff_eq]; exact hqi
        have HP : Hid (D.page i = q.2) := Lib.hid (by unfold DS.page; rw [lastOf_at Hq.out hqi (fun j q' hj h' => Hno.out j q' (by omega) h')])
        clear hqi
        go_wp2_with (go_at_call 28; refine (bytes_any _ _ q.2 HS.out (by rw [Hql.out]; omega)).mono ?_; rintro e w2 ⟨g, cg, rfl, hge, hr, hc2⟩)
        go_ret2
        refine ⟨_, rfl, ?_, ⟨_, _, HF1.out.chg hc2 (fun _ _ f => f)⟩, Hc1.out.trans hc2 (fun _ f => f.elim)⟩
        rw [HP.out]
        exact ⟨hr, fun x e => by cases e; exact Nat.le_trans Hc1.out.size hge⟩
      · have hb1 : ((q.1 : Int) == (i : Int)) = false := by rw [beq_eq_false_iff_ne]; exact hqi
        have Hqi := Lib.hid hqi
        clear hqi
        go_wp2_with fail
        go_roundg n
        case measure => have := Hg.out; omega
        case rel => exact ⟨n, by omega, rfl, rfl, rfl, fun j q' hj h' => by
          by_cases e : j = n
          · subst e; have e2 := Hq.out.symm.trans h'; cases e2; exact Hqi.out
          · exact Hno.out j q' (by omega) h'⟩

theorem rread_any (w : World) (own : Own) (b : Nat) (D : DS) (h : RefAt w own b D) (hok : D.ok) (hpn : D.pending.length ≤ 1000000) (hpl : D.pages ≤ 1000000) (i : Int) :
    Calls Try.prog 40 #[.pointer (some ⟨b, 0, none⟩), .int .i64 i] w fun e w' => ∃ v, e = .returned (.tuple #[v, .int .i64 (D.read i).1]) ∧ Handed w w' v (D.read i).2.1 ∧ RefAt w' own b (D.read i).2.2 ∧ Chg (fun x => x = b) w w' := by
  have hD := Lib.hid h
  have hpg := Lib.hid (rpages_any w own b D h hok)
  obtain ⟨_, c3, _, _, _, _⟩ := h.cells
  by_cases h0 : i < 0
  · have he : Hid (D.read i = (121, [], D)) := Lib.hid (by simp [DS.read, h0])
    clear h hok
    go_enter Try.func40, Try.ntmps40
    go_wp2
    go_ret2
    rw [he.out]
    exact ⟨_, rfl, Handed.nil _ _, hD.out, Chg.refl _ _⟩
  · obtain ⟨n, rfl⟩ : ∃ n : Nat, i = n := ⟨i.toNat, by omega⟩
    by_cases h1 : D.pages ≤ n
    · have he : Hid (D.read n = (121, [], D)) := Lib.hid (by simp [DS.read, h0, h1])
      have h1' : (D.pages : Int) ≤ (n : Int) := by omega
      clear h hok h0 h1
      go_enter Try.func40, Try.ntmps40
      go_wp2_with (go_at_call 50; refine hpg.out.mono ?_; rintro e w' ⟨rfl, rfl⟩)
      go_ret2
      rw [he.out]
      exact ⟨_, rfl, Handed.nil _ _, hD.out, Chg.refl _ _⟩
    · cases h4 : D.off with
      | true =>
        have he : Hid (D.read n = (123, [], D)) := Lib.hid (by simp [DS.read, h0, h1, h4])
        have h1' : ¬ (D.pages : Int) ≤ (n : Int) := by omega
        rw [h4] at c3
        clear h hok h0 h1 h4
        go_enter Try.func40, Try.ntmps40
        go_wp2_with (go_at_call 50; refine hpg.out.mono ?_; rintro e w' ⟨rfl, rfl⟩)
        go_ret2
        rw [he.out]
        exact ⟨_, rfl, Handed.nil _ _, hD.out, Chg.refl _ _⟩
      | false =>
        have he : D.read n = (0, D.page n, D.looked) := by simp [DS.read, h0, h1, h4]
        rw [he]
        exact rread_go w own b D h hok hpn n (by omega) (by omega) h4

end Go.Proofs.Ytckioocahmbhkaa
