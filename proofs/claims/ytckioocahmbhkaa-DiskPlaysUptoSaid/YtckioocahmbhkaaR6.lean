/- The reference's Write at large, Durable, Read. -/
import Derived.Test.YtckioocahmbhkaaR5
namespace Go.Proofs.Ytckioocahmbhkaa
open Go Go.RowKit Go.Maps Go.MuLone

set_option maxRecDepth 100000 in
set_option maxHeartbeats 4000000 in
theorem rwrite_any (w : World) (own : Own) (b : Nat) (D : DS) (h : RefAt w own b D) (hok : D.ok) (i : Int) (a : Option Addr) (cap : Nat) (p : List UInt8)
    (ha : p.length = 4096 → ∃ g o, a = some ⟨g, o, none⟩ ∧ ¬ own.blocks g ∧ ∀ (j : Nat) (x : UInt8), p[j]? = some x → w.cell? ⟨g, o + j, none⟩ = some (bV x)) (hpn : D.pending.length < 1000000) :
    Calls Try.prog 54 #[.pointer (some ⟨b, 0, none⟩), .int .i64 i, .slice a p.length cap] w fun e w' => e = .returned (.int .i64 (D.write i p).1) ∧ ∃ own', RefAt w' own' b (D.write i p).2 ∧ Step w own w' own' := by
  have hD := Lib.hid h
  have hpg := Lib.hid (rpages_any w own b D h hok)
  obtain ⟨c0, c3, _, _, _, _⟩ := h.cells
  by_cases h0 : i < 0
  · have he : Hid (D.write i p = (121, D)) := Lib.hid (by simp [DS.write, h0])
    clear h hok ha
    go_enter Try.func54, Try.ntmps54
    go_wp2
    go_ret
    rw [he.out]
    exact ⟨rfl, own, hD.out, Step.refl _ _⟩
  · obtain ⟨n, rfl⟩ : ∃ n : Nat, i = n := ⟨i.toNat, by omega⟩
    by_cases h1 : D.pages < n
    · have he : Hid (D.write n p = (121, D)) := Lib.hid (by simp [DS.write, h0, h1])
      have h1' : (D.pages : Int) < (n : Int) := by omega
      clear h hok ha h0
      go_enter Try.func54, Try.ntmps54
      go_wp2_with (go_at_call 50; refine hpg.out.mono ?_; rintro e w' ⟨rfl, rfl⟩)
      go_ret
      rw [he.out]
      exact ⟨rfl, own, hD.out, Step.refl _ _⟩
    · have h1' : ¬ (D.pages : Int) < (n : Int) := by omega
      by_cases h2 : D.cap ≤ (n : Int)
      · have he : Hid (D.write n p = (125, D)) := Lib.hid (by simp [DS.write, h0, h1, h2])
        clear h hok ha h0 h1
        go_enter Try.func54, Try.ntmps54
        go_wp2_with (go_at_call 50; refine hpg.out.mono ?_; rintro e w' ⟨rfl, rfl⟩)
        go_ret
        rw [he.out]
        exact ⟨rfl, own, hD.out, Step.refl _ _⟩
      · by_cases h3 : p.length = 4096
        · cases h4 : D.off with
          | true =>
            have he : Hid (D.write n p = (123, D)) := Lib.hid (by simp [DS.write, h0, h1, h2, h3, h4])
            rw [h4] at c3
            have h3' : ((p.length : Int) != 4096) = false := by rw [bne_eq_false_iff_eq]; omega
            clear h hok ha h0 h1 h4 h3
            go_enter Try.func54, Try.ntmps54
            go_wp2_with (go_at_call 50; refine hpg.out.mono ?_; rintro e w' ⟨rfl, rfl⟩)
            go_ret
            rw [he.out]
            exact ⟨rfl, own, hD.out, Step.refl _ _⟩
          | false =>
            obtain ⟨g, o, rfl, hg, hs⟩ := ha h3
            rw [h3]
            refine (rwrite_go w own b D h hok n g o cap p h3 hs hg (by omega) (by omega) h4 hpn).mono ?_
            rintro e w' ⟨rfl, own', r1, r2⟩
            rw [show D.write n p = (if D.count.off then 123 else 0, D.put n p) by simp [DS.write, h0, h1, h2, h3, h4]]
            exact ⟨rfl, own', r1, r2⟩
        · have he : Hid (D.write n p = (122, D)) := Lib.hid (by simp [DS.write, h0, h1, h2, h3])
          have h3' : ((p.length : Int) != 4096) = true := by rw [bne_iff_ne]; omega
          clear h hok ha h0 h1 h3
          go_enter Try.func54, Try.ntmps54
          go_wp2_with (go_at_call 50; refine hpg.out.mono ?_; rintro e w' ⟨rfl, rfl⟩)
          go_ret
          rw [he.out]
          exact ⟨rfl, own, hD.out, Step.refl _ _⟩

/-- What lies at a page that lasts. -/
theorem LastAt.at {w : World} {own : Own} {lv : Value} {L : List (List UInt8)} (h : LastAt w own lv L) {k : Nat} {p : List UInt8} (hp : L[k]? = some p) :
    ∃ lg lc gv cv, lv = .slice (some ⟨lg, 0, none⟩) L.length lc ∧ w.cell? ⟨lg, k, none⟩ = some (.slice (some ⟨gv, 0, none⟩) p.length cv) ∧ own gv = some (.page k) ∧ w.ownsRow 0 5 1 (.slice (some ⟨gv, 0, none⟩) p.length cv) p.length (bVs p) := by
  obtain ⟨ls, hll, hla, hlp⟩ := h
  have hlt := (List.getElem?_eq_some_iff.1 hp).1
  obtain ⟨_, lc, rfl, _, _, hlg⟩ := ownsRow_slice hla.1
  obtain ⟨lg, rfl⟩ := hlg (by omega)
  obtain ⟨v, hv, gv, cv, rfl, ho, hr⟩ := hlp k p hp
  exact ⟨lg, lc, gv, cv, rfl, (hla.1.cellAt k (by omega)).trans hv, ho, hr⟩

set_option maxRecDepth 100000 in
set_option maxHeartbeats 4000000 in
theorem rdurable_any (w : World) (own : Own) (b : Nat) (D : DS) (h : RefAt w own b D) (hok : D.ok) :
    Calls Try.prog 49 #[.pointer (some ⟨b, 0, none⟩)] w fun e w' => ∃ a cap, e = .returned (.slice a D.lasting.flatten.length cap) ∧ Handed w w' (.slice a D.lasting.flatten.length cap) D.lasting.flatten ∧ Chg (fun _ => False) w w' := by
  obtain ⟨lv, pv, hF⟩ := h
  obtain ⟨c1, _⟩ := hF.fields
  obtain ⟨la, lc, rfl⟩ := hF.last.form
  have HF := Lib.hid hF
  have Hok := Lib.hid hok
  have hln : D.lasting.length ≤ 524287 := hok.len
  have hbl : b < w.heap.size := hF.lt b (Own.blocks_of hF.str)
  obtain ⟨i1, hi', hz0, hz1, hz2⟩ := info_parts info5
  have Hfl := Lib.hid (flatten_len D.lasting hok.page)
  clear hF hok
  go_enter Try.func49, Try.ntmps49
  go_wp2_with fail
  go_loopg [3, 4] D.lasting.length (fun gm v i wr => ∃ (k n : Nat) (a : Option Addr) (cap : Nat), k ≤ D.lasting.length ∧ gm = D.lasting.length - k ∧ i = .int .i64 k ∧ n = k * 4096 ∧ v = .slice a n cap ∧ wr.ownsRow 0 5 1 (.slice a n cap) n (bVs (D.lasting.take k).flatten) ∧ (∀ g, (Value.slice a n cap).ownBlock = some g → w.heap.size ≤ g) ∧ Chg (fun _ => False) w wr)
  case atStart => exact ⟨0, 0, none, 0, Nat.zero_le _, rfl, rfl, rfl, rfl, World.ownsRow_nil _ _ _ _, fun g e => by simp [Value.ownBlock] at e, Chg.refl _ _⟩
  case round =>
    obtain ⟨k, n, a, cap, hk, hg, rfl, hn, rfl, hrowv, hvB, hchg⟩ := hrel
    have Hg := Lib.hid hg
    have Hn := Lib.hid hn
    have hn2 : n ≤ 524287 * 4096 := by omega
    have cr : wr.cell? ⟨b, 1, none⟩ = some (.slice la D.lasting.length lc) := (cell_chg hchg hbl (fun f => f)).trans c1
    clear hn hg
    by_cases hlt : k < D.lasting.length
    · obtain ⟨p, hp⟩ : ∃ p, D.lasting[k]? = some p := ⟨_, List.getElem?_eq_getElem hlt⟩
      obtain ⟨lg, lc', gv, cv, e, cl0, hrole, hbuf⟩ := HF.out.last.at hp
      cases e
      have hpl : p.length = 4096 := Hok.out.page p (List.mem_of_getElem? hp)
      have hbufr := ownsRow_chg hbuf hchg (fun _ _ f => f)
      obtain ⟨s1, s2⟩ := row_sees hbufr
      have cl : wr.cell? ⟨lg, k, none⟩ = some (.slice (some ⟨gv, 0, none⟩) p.length cv) := (cell_chg hchg (World.block_lt_of_cell? _ _ cl0) (fun f => f)).trans cl0
      have Hp := Lib.hid hp
      have Hrowv := Lib.hid hrowv
      have HvB := Lib.hid hvB
      have Hs2 := Lib.hid s2
      have Hpl := Lib.hid hpl
      have Hchg := Lib.hid hchg
      have hpl2 : p.length ≤ 4096 := by omega
      clear hp hrole hbuf hbufr hrowv hvB s2 hpl cl0 hchg
      go_wp2_with (at_builtin; refine wpList_append_own_at _ rfl _ _ 27 rfl 0 5 i1 (.int .u8 0) 1 1 Try.underlying27 hi' hz0 hz1 hz2 rfl (by decide) _ n (bVs (D.lasting.take k).flatten) rfl Hrowv.out ⟨gv, 0, none⟩ p.length cv (bVs p) rfl (by rw [bVs_length, Nat.mul_one]) (fun j u hu => by obtain ⟨x, hx, rfl⟩ := bVs_get hu; rw [addr_add]; exact Hs2.out j x hx) oneCell_bVs (by unfold maxLen; omega) (by omega) (Nat.zero_le _) ?_; intro v' w1' hown' hg' hnil' hat')
      obtain ⟨a', cap', rfl⟩ : ∃ a' cap', v' = .slice a' (n + p.length) cap' := by
        obtain ⟨a', cap', h, _⟩ := ownsRow_slice hown'
        exact ⟨a', cap', h⟩
      have hB1 := Hchg.out.size
      have hc' := Lib.hid (Hchg.out.grown hg' (fun k e => .inr (HvB.out k e)))
      have hbk : Hid (∀ g, (Value.slice a' (n + p.length) cap').ownBlock = some g → w.heap.size ≤ g) := Lib.hid fun g e => by
        rcases hat' with e' | e'
        · exact HvB.out g (e'.symm.trans e)
        · rw [e'] at e; cases e; exact hB1
      have Hown' := Lib.hid hown'
      clear hown' hg' hnil' hat'
      go_wp2_with fail
      go_roundg (D.lasting.length - (k + 1))
      case measure => have := Hg.out; omega
      case rel =>
        refine ⟨k + 1, n + p.length, a', cap', by omega, rfl, by go_num, by have := Hn.out; have := Hpl.out; omega, rfl, ?_, hbk.out, hc'.out⟩
        rw [flatten_snoc _ _ _ Hp.out, show bVs ((D.lasting.take k).flatten ++ p) = bVs (D.lasting.take k).flatten ++ bVs p by simp [bVs]]
        exact Hown'.out
    · have hk2 : k = D.lasting.length := by omega
      subst hk2
      have Hrowv := Lib.hid hrowv
      have HvB := Lib.hid hvB
      have Hchg := Lib.hid hchg
      clear hrowv hvB hchg
      go_wp2
      go_ret
      have hne : n = D.lasting.flatten.length := by rw [Hfl.out]; exact Hn.out
      have hr2 := Hrowv.out
      rw [List.take_length] at hr2
      subst hne
      exact ⟨a, cap, rfl, ⟨hr2, fun g e => HvB.out g e⟩, Hchg.out⟩

end Go.Proofs.Ytckioocahmbhkaa
