/- Walks: Lists. -/
import Derived.Test.YtipclbibomemjaaGreatDoorU5
namespace Go.Proofs.YtipclbibomemjaaGreatDoor
open Go Go.RowKit Go.Maps

def PS.has (P : PS) (x : Int) : Bool := P.free.any fun q => (q.1 : Int) == x
theorem FreeOf.has_eq {M : DataW Unit} {P : PS} (h : FreeOf M P.free) (x : Int) : Maps.has M (kI x) = P.has x := by
  unfold PS.has
  rw [Bool.eq_iff_iff, h.has, List.any_eq_true]
  constructor
  · rintro ⟨q, h1, h2⟩; exact ⟨q, h1, by rw [beq_iff_eq]; exact h2⟩
  · rintro ⟨q, h1, h2⟩; exact ⟨q, h1, by rw [beq_iff_eq] at h2; exact h2⟩
def taken (usable : Nat) (d : Int) (f : Nat) : Int := if d ≤ (usable : Int) - f then d + f else usable
def needs (all usable : Nat) (d : Int) (f : Nat) : Bool := decide ((all : Int) - taken usable d f ≤ (f : Int) * 1021)
def least (all usable : Nat) (d : Int) : Nat → Nat → Nat
  | 0, f => f
  | n + 1, f => if needs all usable d f then f else least all usable d n (f + 1)
theorem taken_bounds (usable : Nat) (d : Int) (f : Nat) (hd : 0 ≤ d) : 0 ≤ taken usable d f ∧ taken usable d f ≤ usable := by
  unfold taken; split <;> omega
theorem needs_all (all usable : Nat) (d : Int) (hd : 0 ≤ d) : needs all usable d all = true := by
  unfold needs
  have := taken_bounds usable d all hd
  exact decide_eq_true (by omega)
def PS.pagesOf (P : PS) (d : Int) (gone : List Int) : Nat := least (P.free.length + gone.length) P.usable.length d (P.free.length + gone.length + 1) 0
def PS.lists (P : PS) (d : Int) (gone : List Int) : Int :=
  if d < 0 then -1 else if riseK P.size 1 gone = false then -1 else if gone.any P.has = true then -1 else P.pagesOf d gone

set_option maxRecDepth 100000 in
set_option maxHeartbeats 4000000 in
theorem lists_any (w : World) (pb m1 m2 : Nat) (P : PS) (h : PoolF w pb m1 m2 P) (hok : P.ok) (d : Int) (v : Value) (gone : List Int) (hs : SeesI w v gone) (hl : gone.length ≤ 1000000) (hwf : ∀ x ∈ gone, (Lit.int .i64 x).wf = true) :
    Calls Tryz.prog 18 #[.pointer (some ⟨pb, 0, none⟩), .int .i64 d, v] w fun e w' => e = .returned (.int .i64 (P.lists d gone)) ∧ Chg (fun _ => False) w w' := by
  obtain ⟨c0, c1, c2, c3, _⟩ := h.cells
  have H := Lib.hid h
  have HS := Lib.hid hs
  have Hok := Lib.hid hok
  have HWF := Lib.hid hwf
  obtain ⟨a, c, rfl, hn, hcell⟩ := hs
  have Hn := Lib.hid hn
  have Hcell := Lib.hid hcell
  obtain ⟨M1, hown, hM⟩ := h.fr
  have HM := Lib.hid hM
  have hsz1 := hM.size
  have hfl := hok.len
  have hul := usable_len hok
  clear h hok hwf hn hcell hM
  by_cases hd : d < 0
  · have HL : Hid (P.lists d gone = -1) := Lib.hid (by unfold PS.lists; rw [if_pos hd])
    go_enter Tryz.func18, Tryz.ntmps18
    go_wp2_with fail
    go_ret
    exact ⟨by rw [HL.out]; rfl, Chg.refl _ _⟩
  · by_cases hr : riseK P.size 1 gone = false
    · have HL : Hid (P.lists d gone = -1) := Lib.hid (by unfold PS.lists; rw [if_neg hd, if_pos hr])
      have HR := Lib.hid hr
      clear hr
      go_enter Tryz.func18, Tryz.ntmps18
      go_wp2_with (go_at_call 21; refine (rise_any _ _ gone HS.out P.size (by omega)).mono ?_; rintro e w' ⟨rfl, rfl⟩; rw [HR.out])
      go_ret
      exact ⟨by rw [HL.out]; rfl, Chg.refl _ _⟩
    · have hr' : riseK P.size 1 gone = true := by simpa using hr
      have HR := Lib.hid hr'
      clear hr hr'
      go_enter Tryz.func18, Tryz.ntmps18
      go_wp2_with (go_at_call 21; refine (rise_any _ _ gone HS.out P.size (by omega)).mono ?_; rintro e w' ⟨rfl, rfl⟩; rw [HR.out])
      go_loopg [28] gone.length (fun gm iv wr => ∃ k : Nat, k ≤ gone.length ∧ gm = gone.length - k ∧ iv = .int .i64 k ∧ w = wr ∧ (gone.drop k).any P.has = gone.any P.has)
      case atStart => exact ⟨0, by omega, rfl, rfl, rfl, rfl⟩
      case round =>
        obtain ⟨k, hk, hg, rfl, rfl, hany⟩ := hrel
        have Hg := Lib.hid hg
        have Hany := Lib.hid hany
        clear hg hany
        by_cases hlt : k < gone.length
        · obtain ⟨x, hx⟩ : ∃ x, gone[k]? = some x := ⟨_, List.getElem?_eq_getElem hlt⟩
          have hdr : gone.drop k = x :: gone.drop (k + 1) := by
            rw [List.drop_eq_getElem_cons hlt]
            congr 1
            exact (List.getElem?_eq_some_iff.1 hx).2
          have HDr := Lib.hid hdr
          have Hwx := Lib.hid (HWF.out x (List.mem_of_getElem? hx))
          have hhas := HM.out.has_eq x
          have Hhas := Lib.hid hhas
          cases a with
          | none => have := Hn.out rfl; subst this; simp at hlt
          | some ad =>
            have cx := Hcell.out ad rfl k x hx
            have hki : (k : Int) < (gone.length : Int) := by omega
            have hk0 : (0 : Int) ≤ (k : Int) := by omega
            clear hx hdr hhas
            cases hpx : P.has x with
            | true =>
              have HL : Hid (P.lists d gone = -1) := Lib.hid (by
                have : gone.any P.has = true := by rw [← Hany.out, HDr.out, List.any_cons, hpx]; rfl
                unfold PS.lists; rw [if_neg (by omega), if_neg (by rw [HR.out]; simp), if_pos this])
              go_wp2_with (first
                | (at_lookup; refine wpList_lookup_own_ok_int _ rfl _ _ 62 rfl 3 3 .i64 law3 Tryz.underlying62 Tryz.underlying3 (zero3 _) m1 _ M1 rfl hown _ _ rfl (keyOf_int_mk Tryz.underlying3 Hwx.out) ?_; intro c' hat hwc; rw [Hhas.out, hpx])
                | go_in)
              go_ret
              exact ⟨by rw [HL.out]; rfl, Chg.refl _ _⟩
            | false =>
              go_wp2_with (first
                | (at_lookup; refine wpList_lookup_own_ok_int _ rfl _ _ 62 rfl 3 3 .i64 law3 Tryz.underlying62 Tryz.underlying3 (zero3 _) m1 _ M1 rfl hown _ _ rfl (keyOf_int_mk Tryz.underlying3 Hwx.out) ?_; intro c' hat hwc; rw [Hhas.out, hpx])
                | go_in)
              go_roundg (gone.length - (k + 1))
              case measure => have := Hg.out; omega
              case rel => exact ⟨k + 1, by omega, rfl, by go_num, rfl, by rw [← Hany.out, HDr.out, List.any_cons, hpx]; rfl⟩
        · have HA : Hid (gone.any P.has = false) := Lib.hid (by rw [← Hany.out, List.drop_eq_nil_of_le (by omega)]; rfl)
          have HL : Hid (P.lists d gone = P.pagesOf d gone) := Lib.hid (by unfold PS.lists; rw [if_neg (by omega), if_neg (by rw [HR.out]; simp), if_neg (by rw [HA.out]; simp)])
          clear Hany Hg
          obtain ⟨fl, hfle⟩ : ∃ fl, fl = P.free.length := ⟨_, rfl⟩
          obtain ⟨u, hu⟩ : ∃ u, u = P.usable.length := ⟨_, rfl⟩
          rw [← hfle] at hsz1 hfl
          rw [← hu] at hul
          have HFL := Lib.hid hfle
          have HU := Lib.hid hu
          clear hfle hu
          go_wp2_with (first
            | (at_len; refine wpList_len_own _ rfl _ 62 rfl 3 3 Tryz.underlying62 _ m1 _ _ rfl hown ?_; rw [hsz1])
            | fail)
          refine (usable_any _ _ _ _ _ H.out Hok.out).mono ?_
          rintro e w2 ⟨v2, rfl, hN, hc2⟩
          obtain ⟨a2, cap2, e2, _⟩ := ownsRow_slice hN.1
          rw [nums_length, ← HU.out] at e2
          subst e2
          have HC2 := Lib.hid hc2
          obtain ⟨all, hall⟩ : ∃ all, all = fl + gone.length := ⟨_, rfl⟩
          have HALL := Lib.hid hall
          have hlall : all ≤ 2000000 := by omega
          have hsum : (fl : Int) + (gone.length : Int) = (all : Int) := by omega
          have HPG : Hid (P.pagesOf d gone = least all u d (all + 1) 0) := Lib.hid (by unfold PS.pagesOf; rw [← HFL.out, ← HU.out, ← hall])
          clear hN hc2 hall
          go_wp2_with fail
          go_loopg [13, 14] (all + 1) (fun gm fv tv wr => ∃ f : Nat, f ≤ all ∧ gm = all + 1 - f ∧ fv = .int .i64 f ∧ w2 = wr ∧ least all u d (all + 1 - f) f = least all u d (all + 1) 0)
          case atStart => exact ⟨0, by omega, by omega, rfl, rfl, rfl⟩
          case round =>
            obtain ⟨f, hf, hg, rfl, rfl, hle⟩ := hrel
            have Hg := Lib.hid hg
            have Hle := Lib.hid hle
            clear hg hle
            have hun : least all u d (all + 1 - f) f = if needs all u d f then f else least all u d (all - f) (f + 1) := by
              rw [show all + 1 - f = (all - f) + 1 by omega]; rfl
            have HUn := Lib.hid hun
            clear hun
            cases hnd : needs all u d f with
            | true =>
              have HRes : Hid (P.lists d gone = (f : Int)) := Lib.hid (by rw [HL.out, HPG.out, ← Hle.out, HUn.out, hnd, if_pos rfl])
              have HND := Lib.hid hnd
              clear hnd
              by_cases ht : d ≤ (u : Int) - f
              · have h2 : (all : Int) - (d + f) ≤ (f : Int) * 1021 := by
                  have := HND.out; unfold needs taken at this; rw [if_pos ht, decide_eq_true_eq] at this; exact this
                go_wp2_with fail
                go_ret
                exact ⟨by rw [HRes.out]; rfl, HC2.out⟩
              · have h2 : (all : Int) - u ≤ (f : Int) * 1021 := by
                  have := HND.out; unfold needs taken at this; rw [if_neg ht, decide_eq_true_eq] at this; exact this
                go_wp2_with fail
                go_ret
                exact ⟨by rw [HRes.out]; rfl, HC2.out⟩
            | false =>
              have hfa : f < all := by
                rcases Nat.lt_or_ge f all with h | h
                · exact h
                · have : f = all := by omega
                  rw [this, needs_all all u d (by omega)] at hnd; cases hnd
              have HND := Lib.hid hnd
              clear hnd
              by_cases ht : d ≤ (u : Int) - f
              · have h2 : ¬ (all : Int) - (d + f) ≤ (f : Int) * 1021 := by
                  have := HND.out; unfold needs taken at this; rw [if_pos ht, decide_eq_false_iff_not] at this; exact this
                go_wp2_with fail
                go_roundg (all + 1 - (f + 1))
                case measure => have := Hg.out; omega
                case rel => exact ⟨f + 1, by omega, rfl, by go_num, rfl, by rw [← Hle.out, HUn.out, HND.out, if_neg (by simp), show all + 1 - (f + 1) = all - f by omega]⟩
              · have h2 : ¬ (all : Int) - u ≤ (f : Int) * 1021 := by
                  have := HND.out; unfold needs taken at this; rw [if_neg ht, decide_eq_false_iff_not] at this; exact this
                go_wp2_with fail
                go_roundg (all + 1 - (f + 1))
                case measure => have := Hg.out; omega
                case rel => exact ⟨f + 1, by omega, rfl, by go_num, rfl, by rw [← Hle.out, HUn.out, HND.out, if_neg (by simp), show all + 1 - (f + 1) = all - f by omega]⟩
end Go.Proofs.YtipclbibomemjaaGreatDoor
