/- The document's pool: Lists. -/
import Derived.Test.YtipclbibomemjaaV7
namespace Go.Proofs.Ytipclbibomemjaa
open Go Go.RowKit Go.Maps

set_option maxRecDepth 100000 in
set_option maxHeartbeats 4000000 in
theorem rlists_any (w : World) (rb : Nat) (P : PS) (lv pv : Value) (h : RF w rb P lv pv) (hok : P.ok) (hp : P.pins.length ≤ 1000000) (d : Int) (v : Value) (gone : List Int) (hs : SeesI w v gone) (hl : gone.length ≤ 1000000) :
    Calls Try.prog 34 #[.pointer (some ⟨rb, 0, none⟩), .int .i64 d, v] w fun e w' => e = .returned (.int .i64 (P.lists d gone)) ∧ Chg (fun _ => False) w w' := by
  obtain ⟨c0, c1, c2, c3, _⟩ := h.cells
  have H := Lib.hid h
  have HS := Lib.hid hs
  have Hok := Lib.hid hok
  obtain ⟨a, c, rfl, hn, _⟩ := hs
  have Hn := Lib.hid hn
  have hfl := hok.len
  have hul := usable_len hok
  clear h hok hn
  by_cases hd : d < 0
  · have HL : Hid (P.lists d gone = -1) := Lib.hid (by unfold PS.lists; rw [if_pos hd])
    go_enter Try.func34, Try.ntmps34
    go_wp2_with fail
    go_ret
    exact ⟨by rw [HL.out]; rfl, Chg.refl _ _⟩
  · by_cases hr : riseK P.size 1 gone = false
    · have HL : Hid (P.lists d gone = -1) := Lib.hid (by unfold PS.lists; rw [if_neg hd, if_pos hr])
      have HR := Lib.hid hr
      clear hr
      go_enter Try.func34, Try.ntmps34
      go_wp2_with (go_at_call 42; refine (rises_any _ _ gone HS.out P.size (by omega)).mono ?_; rintro e w1 ⟨rfl, hc1⟩; rw [HR.out]; have HC1 := Lib.hid hc1; clear hc1)
      go_ret
      exact ⟨by rw [HL.out]; rfl, HC1.out⟩
    · have hr' : riseK P.size 1 gone = true := by simpa using hr
      have HR := Lib.hid hr'
      clear hr hr'
      go_enter Try.func34, Try.ntmps34
      go_wp2_with (go_at_call 42; refine (rises_any _ _ gone HS.out P.size (by omega)).mono ?_; rintro e w1 ⟨rfl, hc1⟩; rw [HR.out]; have HC1 := Lib.hid hc1; clear hc1)
      have H1 := Lib.hid (H.out.chg0 HC1.out)
      have HS1 := Lib.hid (HS.out.chg0 HC1.out)
      clear c0 c1 c2 c3
      go_loopg [7] gone.length (fun gm iv wr => ∃ k : Nat, k ≤ gone.length ∧ gm = gone.length - k ∧ iv = .int .i64 k ∧ w1 = wr ∧ (gone.drop k).any P.has = gone.any P.has)
      case atStart => exact ⟨0, by omega, rfl, rfl, rfl, rfl⟩
      case round =>
        obtain ⟨k, hk, hg, rfl, rfl, hany⟩ := hrel
        have Hg := Lib.hid hg
        have Hany := Lib.hid hany
        clear hg hany
        by_cases hlt : k < gone.length
        · obtain ⟨x, hx⟩ : ∃ x, gone[k]? = some x := ⟨_, List.getElem?_eq_getElem hlt⟩
          have HDr := Lib.hid (drop_cons hx)
          obtain ⟨ad, rfl⟩ : ∃ ad, a = some ad := by
            cases a with
            | none => have := Hn.out rfl; subst this; simp at hlt
            | some ad => exact ⟨ad, rfl⟩
          have cx : w1.cell? (ad.add k) = some (.int .i64 x) := by
            obtain ⟨a4, c4, e4, _, h4⟩ := HS1.out
            cases e4
            exact h4 ad rfl k x hx
          have hki : (k : Int) < (gone.length : Int) := by omega
          have hk0 : (0 : Int) ≤ (k : Int) := by omega
          obtain ⟨hh, hhe⟩ : ∃ hh, P.has x = hh := ⟨_, rfl⟩
          have HH := Lib.hid hhe
          clear hx hhe
          cases hh with
          | true =>
            have HL : Hid (P.lists d gone = -1) := Lib.hid (by
              have : gone.any P.has = true := by rw [← Hany.out, HDr.out, List.any_cons, HH.out]; rfl
              unfold PS.lists; rw [if_neg (by omega), if_neg (by rw [HR.out]; simp), if_pos this])
            go_wp2_with (go_at_call 43; refine (rhas_any _ _ _ _ _ H1.out hfl x).mono ?_; rintro e w2 ⟨rfl, rfl⟩; rw [HH.out])
            go_ret
            exact ⟨by rw [HL.out]; rfl, HC1.out⟩
          | false =>
            go_wp2_with (go_at_call 43; refine (rhas_any _ _ _ _ _ H1.out hfl x).mono ?_; rintro e w2 ⟨rfl, rfl⟩; rw [HH.out])
            go_roundg (gone.length - (k + 1))
            case measure => have := Hg.out; omega
            case rel => exact ⟨k + 1, by omega, rfl, by go_num, rfl, by rw [← Hany.out, HDr.out, List.any_cons, HH.out]; rfl⟩
        · have HA : Hid (gone.any P.has = false) := Lib.hid (by rw [← Hany.out, List.drop_eq_nil_of_le (by omega)]; rfl)
          have HL : Hid (P.lists d gone = P.pagesOf d gone) := Lib.hid (by unfold PS.lists; rw [if_neg (by omega), if_neg (by rw [HR.out]; simp), if_neg (by rw [HA.out]; simp)])
          clear Hany Hg
          obtain ⟨fl, hfle⟩ : ∃ fl, fl = P.free.length := ⟨_, rfl⟩
          obtain ⟨u, hu⟩ : ∃ u, u = P.usable.length := ⟨_, rfl⟩
          rw [← hu] at hul
          have HFL := Lib.hid hfle
          have HU := Lib.hid hu
          clear hu
          go_wp2_with fail
          refine (rusable_any _ _ _ _ _ H1.out hfl hp).mono ?_
          rintro e w2 ⟨v2, rfl, hN, hc2⟩
          rw [← hfle] at hfl
          obtain ⟨a2, cap2, e2, _⟩ := ownsRow_slice hN.1
          rw [nums_length, ← HU.out] at e2
          subst e2
          have H2 := Lib.hid (H1.out.chg0 hc2)
          have HC2 := Lib.hid (HC1.out.trans hc2 (fun _ f => f.elim))
          obtain ⟨_, _, d2, _, _⟩ := H2.out.cells
          obtain ⟨la, lc, e3, _⟩ := ownsRow_slice H2.out.fr
          rw [e3, ← hfle] at d2
          obtain ⟨all, hall⟩ : ∃ all, all = fl + gone.length := ⟨_, rfl⟩
          have HALL := Lib.hid hall
          have hlall : all ≤ 2000000 := by omega
          have HPG : Hid (P.pagesOf d gone = least all u d (all + 1) 0) := Lib.hid (by unfold PS.pagesOf; rw [← HFL.out, ← HU.out, ← hall])
          clear hN hc2 hfle e3
          go_wp2_with fail
          go_loopg [10, 11] (all + 1) (fun gm fv tv wr => ∃ f : Nat, f ≤ all ∧ gm = all + 1 - f ∧ fv = .int .i64 f ∧ w2 = wr ∧ least all u d (all + 1 - f) f = least all u d (all + 1) 0)
          case atStart => exact ⟨0, by omega, by omega, rfl, rfl, rfl⟩
          case round =>
            obtain ⟨f, hf, hg, rfl, rfl, hle⟩ := hrel
            have Hg := Lib.hid hg
            have Hle := Lib.hid hle
            clear hg hle
            have hun : least all u d (all + 1 - f) f = if needs all u d f then f else least all u d (all - f) (f + 1) := by
              rw [show all + 1 - f = (all - f) + 1 by omega]; rfl
            have HUn := Lib.hid hun
            clear hun
            obtain ⟨t, ht⟩ : ∃ t, t = taken u d f := ⟨_, rfl⟩
            have HT := Lib.hid ht
            have htb := taken_bounds u d f (by omega)
            rw [← ht] at htb
            have hsum : (fl : Int) - t + (gone.length : Int) = (all : Int) - t := by omega
            cases hnd : needs all u d f with
            | true =>
              have HRes : Hid (P.lists d gone = (f : Int)) := Lib.hid (by rw [HL.out, HPG.out, ← Hle.out, HUn.out, hnd, if_pos rfl])
              have h2 : (fl : Int) - t + (gone.length : Int) ≤ (f : Int) * 1021 := by
                have := hnd; unfold needs at this; rw [← ht, decide_eq_true_eq] at this; omega
              clear hnd hall hsum
              by_cases hd1 : d < (u : Int) ∧ d + f < (u : Int)
              · obtain ⟨hd1, hd2⟩ := hd1
                obtain rfl : t = d + f := by rw [ht]; unfold taken; rw [if_pos (by omega)]
                clear ht
                go_wp2_with fail
                go_ret
                exact ⟨by rw [HRes.out]; rfl, HC2.out⟩
              · obtain rfl : t = u := by rw [ht]; unfold taken; split <;> omega
                clear ht
                by_cases hd3 : d < (u : Int)
                · have hd4 : ¬ d + f < (u : Int) := fun e => hd1 ⟨hd3, e⟩
                  clear hd1
                  go_wp2_with fail
                  go_ret
                  exact ⟨by rw [HRes.out]; rfl, HC2.out⟩
                · clear hd1
                  go_wp2_with fail
                  go_ret
                  exact ⟨by rw [HRes.out]; rfl, HC2.out⟩
            | false =>
              have hfa : f < all := by
                rcases Nat.lt_or_ge f all with h | h
                · exact h
                · have : f = all := by omega
                  rw [this, needs_all all u d (by omega)] at hnd; cases hnd
              have HND := Lib.hid hnd
              have h2 : ¬ (fl : Int) - t + (gone.length : Int) ≤ (f : Int) * 1021 := by
                have := hnd; unfold needs at this; rw [← ht, decide_eq_false_iff_not] at this; omega
              clear hnd hall hsum
              by_cases hd1 : d < (u : Int) ∧ d + f < (u : Int)
              · obtain ⟨hd1, hd2⟩ := hd1
                obtain rfl : t = d + f := by rw [ht]; unfold taken; rw [if_pos (by omega)]
                clear ht
                go_wp2_with fail
                go_roundg (all + 1 - (f + 1))
                case measure => have := Hg.out; omega
                case rel => exact ⟨f + 1, by omega, rfl, by go_num, rfl, by rw [← Hle.out, HUn.out, HND.out, if_neg (by simp), show all + 1 - (f + 1) = all - f by omega]⟩
              · obtain rfl : t = u := by rw [ht]; unfold taken; split <;> omega
                clear ht
                by_cases hd3 : d < (u : Int)
                · have hd4 : ¬ d + f < (u : Int) := fun e => hd1 ⟨hd3, e⟩
                  clear hd1
                  go_wp2_with fail
                  go_roundg (all + 1 - (f + 1))
                  case measure => have := Hg.out; omega
                  case rel => exact ⟨f + 1, by omega, rfl, by go_num, rfl, by rw [← Hle.out, HUn.out, HND.out, if_neg (by simp), show all + 1 - (f + 1) = all - f by omega]⟩
                · clear hd1
                  go_wp2_with fail
                  go_roundg (all + 1 - (f + 1))
                  case measure => have := Hg.out; omega
                  case rel => exact ⟨f + 1, by omega, rfl, by go_num, rfl, by rw [← Hle.out, HUn.out, HND.out, if_neg (by simp), show all + 1 - (f + 1) = all - f by omega]⟩
end Go.Proofs.Ytipclbibomemjaa
