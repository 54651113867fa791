/- Walks: num, Ints, SameInts, New. -/
import Derived.Test.YtipclbibomemjaaGreatDoorU9
import Derived.BigQuiet
namespace Go.Proofs.YtipclbibomemjaaGreatDoor
open Go Go.RowKit Go.Maps

theorem num_any (w : World) (x : Int) : Calls Tryz.prog 19 #[.int .i64 x] w fun e w' => e = .returned (.int .i64 x) ∧ w = w' := by
  go_enter Tryz.func19, Tryz.ntmps19
  go_wp2
  go_ret
  exact ⟨rfl, rfl⟩

theorem drop_cons {zs : List Int} {k : Nat} {x : Int} (h : zs[k]? = some x) : zs.drop k = x :: zs.drop (k + 1) := by
  obtain ⟨hlt, e⟩ := List.getElem?_eq_some_iff.1 h
  rw [List.drop_eq_getElem_cons hlt, e]
theorem take_snoc {zs : List Int} {k : Nat} {x : Int} (h : zs[k]? = some x) : zs.take (k + 1) = zs.take k ++ [x] := by
  rw [List.take_add_one, h]; rfl


set_option maxRecDepth 100000 in
theorem sameI_any (w : World) (v1 v2 : Value) (xs ys : List Int) (h1 : SeesI w v1 xs) (h2 : SeesI w v2 ys) (hl : xs.length ≤ 9223372036854775807) :
    Calls Tryz.prog 16 #[v1, v2] w fun e w' => e = .returned (.bool (decide (xs = ys))) ∧ Chg (fun _ => False) w w' := by
  have H1 := Lib.hid h1
  have H2 := Lib.hid h2
  obtain ⟨a, c, rfl, hn, hc⟩ := h1
  obtain ⟨b, d, rfl, hm, hd⟩ := h2
  have Hn := Lib.hid hn
  have Hc := Lib.hid hc
  have Hm := Lib.hid hm
  have Hd := Lib.hid hd
  clear hn hc hm hd
  by_cases hlen : xs.length = ys.length
  · have Hl := Lib.hid hlen
    have hb : ((xs.length : Int) != (ys.length : Int)) = false := by rw [bne_eq_false_iff_eq]; omega
    clear hlen
    go_enter Tryz.func16, Tryz.ntmps16
    go_wp2_with fail
    go_loopg [5] xs.length (fun gm iv wr => ∃ (k : Nat), k ≤ xs.length ∧ gm = xs.length - k ∧ iv = .int .i64 k ∧ Chg (fun _ => False) w wr ∧ (xs = ys ↔ xs.drop k = ys.drop k))
    case atStart => exact ⟨0, by omega, rfl, rfl, Chg.refl _ _, by simp⟩
    case round =>
      obtain ⟨k, hk, hg, rfl, hch, hr⟩ := hrel
      have HCh := Lib.hid hch
      have Hg := Lib.hid hg
      have Hr := Lib.hid hr
      clear hg hr
      by_cases hlt : k < xs.length
      · obtain ⟨x, hx⟩ : ∃ x, xs[k]? = some x := ⟨_, List.getElem?_eq_getElem hlt⟩
        obtain ⟨y, hy⟩ : ∃ y, ys[k]? = some y := ⟨_, List.getElem?_eq_getElem (by have := Hl.out; omega)⟩
        have HDx := Lib.hid (drop_cons hx)
        have HDy := Lib.hid (drop_cons hy)
        cases a with
        | none => have := Hn.out rfl; subst this; simp at hlt
        | some ad =>
          cases b with
          | none => have := Hm.out rfl; subst this; simp at hy
          | some bd =>
            have cx : wr.cell? (ad.add k) = some (.int .i64 x) := by
              obtain ⟨a2, c2, e2, _, h2⟩ := H1.out.chg0 hch
              cases e2
              exact h2 ad rfl k x hx
            have cy : wr.cell? (bd.add k) = some (.int .i64 y) := by
              obtain ⟨a2, c2, e2, _, h2⟩ := H2.out.chg0 hch
              cases e2
              exact h2 bd rfl k y hy
            have hki : (k : Int) < (xs.length : Int) := by omega
            have hkj : (k : Int) < (ys.length : Int) := by have := Hl.out; omega
            have hk0 : (0 : Int) ≤ (k : Int) := by omega
            clear hx hy hch
            by_cases e : x = y
            · have hxy : (x == y) = true := by rw [beq_iff_eq]; exact e
              have E := Lib.hid e
              clear e
              go_wp2_with fail
              go_quiet (fail)
              go_wp2_with fail
              go_roundg (xs.length - (k + 1))
              case measure => have := Hg.out; omega
              case rel => exact ⟨k + 1, by omega, rfl, by go_num, HCh.out.drewN _, by rw [Hr.out, HDx.out, HDy.out, E.out]; simp⟩
            · have hxy : (x == y) = false := by rw [beq_eq_false_iff_ne]; exact e
              have HF : Hid (decide (xs = ys) = false) := Lib.hid (by rw [decide_eq_false_iff_not, Hr.out, HDx.out, HDy.out]; intro h; injection h with h1; exact e h1)
              clear e
              go_wp2_with fail
              go_quiet (fail)
              go_wp2_with fail
              go_ret
              exact ⟨by rw [HF.out]; rfl, HCh.out.drewN _⟩
      · have HF : Hid (decide (xs = ys) = true) := Lib.hid (by rw [decide_eq_true_eq, Hr.out, List.drop_eq_nil_of_le (by omega), List.drop_eq_nil_of_le (by have := Hl.out; omega)])
        go_wp2_with fail
        go_ret
        exact ⟨by rw [HF.out]; rfl, HCh.out⟩
  · have hb : ((xs.length : Int) != (ys.length : Int)) = true := by rw [bne_iff_ne]; omega
    have HF : Hid (decide (xs = ys) = false) := Lib.hid (by rw [decide_eq_false_iff_not]; intro h; rw [h] at hlen; exact hlen rfl)
    clear hlen
    go_enter Tryz.func16, Tryz.ntmps16
    go_wp2_with fail
    go_ret
    exact ⟨by rw [HF.out]; rfl, Chg.refl _ _⟩

set_option maxRecDepth 100000 in
set_option maxHeartbeats 4000000 in
theorem ints_any (w : World) (v : Value) (zs : List Int) (h : SeesI w v zs) (hl : zs.length ≤ 1000000) :
    Calls Tryz.prog 7 #[v] w fun e w' => ∃ g cap, e = .returned (.slice (some ⟨g, 0, none⟩) zs.length cap) ∧ NewI w w' (.slice (some ⟨g, 0, none⟩) zs.length cap) zs ∧ Chg (fun _ => False) w w' := by
  have HS := Lib.hid h
  obtain ⟨a, c, rfl, hn, hc⟩ := h
  have Hn := Lib.hid hn
  have Hc := Lib.hid hc
  obtain ⟨i1, hi', hz0, hz1, hz2⟩ := info_parts info3
  clear hn hc
  go_enter Tryz.func7, Tryz.ntmps7
  go_wp2_with (first
    | (at_make; refine wpList_make_own _ rfl _ _ 22 rfl 0 3 i1 (.int .i64 0) 1 Tryz.underlying22 hi' hz0 hz1 .i64 .i64 _ zs.length rfl rfl (by simp) (by rw [hz2]; omega) (by unfold maxLen; omega) (Nat.zero_le _) ?_; intro wa hwa hga; have HWA := Lib.hid hwa; have HCA : Hid (Chg (fun _ => False) w wa) := Lib.hid ((Chg.refl _ w).grown hga (fun k e => (by cases e))); clear hwa hga)
    | fail)
  go_loopg [3, 4] zs.length (fun gm lv iv wr => ∃ (k g cap : Nat), k ≤ zs.length ∧ gm = zs.length - k ∧ iv = .int .i64 k ∧ lv = .slice (some ⟨g, 0, none⟩) k cap ∧ wr.ownsRow 0 3 1 (.slice (some ⟨g, 0, none⟩) k cap) k ((zs.take k).map (Value.int .i64)) ∧ w.heap.size ≤ g ∧ Chg (fun _ => False) w wr)
  case atStart => exact ⟨0, _, _, by omega, rfl, rfl, rfl, HWA.out, Nat.le_refl _, HCA.out⟩
  case round =>
    obtain ⟨k, g, cap, hk, hg, rfl, rfl, hrow, hge, hch⟩ := hrel
    have Hg := Lib.hid hg
    have HRow := Lib.hid hrow
    have HCh := Lib.hid hch
    clear hg hrow
    by_cases hlt : k < zs.length
    · obtain ⟨x, hx⟩ : ∃ x, zs[k]? = some x := ⟨_, List.getElem?_eq_getElem hlt⟩
      have HT := Lib.hid (take_snoc hx)
      cases a with
      | none => have := Hn.out rfl; subst this; simp at hlt
      | some ad =>
        have cx : wr.cell? (ad.add k) = some (.int .i64 x) := by
          obtain ⟨a2, c2, e2, _, h2⟩ := HS.out.chg0 hch
          cases e2
          exact h2 ad rfl k x hx
        have hki : (k : Int) < (zs.length : Int) := by omega
        have hk0 : (0 : Int) ≤ (k : Int) := by omega
        clear hx hch
        go_wp2_with (first
          | (at_builtin; refine wpList_append_lies _ rfl _ _ _ rfl 0 3 i1 (.int .i64 0) 1 8 Tryz.underlying22 hi' hz0 hz1 hz2 rfl (by omega) (.slice (some ⟨g, 0, none⟩) k cap) k ((zs.take k).map (Value.int .i64)) (by rfl) (HRow.out.alloc _) ⟨wr.heap.size, 0, none⟩ 1 1 [.int .i64 x] (by rfl) (by rfl) (World.news_of_block (cs := #[.int .i64 x]) (t := 3) (fr := (0, 0)) (heap_alloc_new wr _)) (by simp [Value.oneCell']) (by omega) (by unfold maxLen; omega) (by omega) (Nat.zero_le _) (wr.heap.size + 1) (Array.size_push _) ?_; intro g' cap' w5 hrow5 hgrow5 hat5 hlt5; have HC5 : Hid (Chg (fun _ => False) w w5) := Lib.hid ((HCh.out.alloc (.cells #[.int .i64 x] 3)).grown hgrow5 (fun k e => .inr (by simp only [Value.ownBlock, Option.some.injEq] at e; omega))); have HRow5 := Lib.hid hrow5; have HAt5 := Lib.hid hat5; clear hrow5 hgrow5 hat5)
          | fail)
        go_roundg (zs.length - (k + 1))
        case measure => have := Hg.out; omega
        case rel =>
          refine ⟨k + 1, g', cap', by omega, rfl, by go_num, rfl, ?_, ?_, HC5.out⟩
          · rw [HT.out, List.map_append]; exact HRow5.out
          · have := HCh.out.size
            rcases HAt5.out with e | e
            · simp only [Value.ownBlock, Option.some.injEq] at e; omega
            · omega
    · have hkz : k = zs.length := by omega
      subst hkz
      have HE : Hid (NewI w wr (.slice (some ⟨g, 0, none⟩) zs.length cap) zs) := Lib.hid ⟨by have := HRow.out; rw [List.take_length] at this; exact this, fun g' e => by have e2 : some g = some g' := e; injection e2 with e3; rw [← e3]; exact hge⟩
      clear Hg
      go_wp2_with fail
      go_ret
      exact ⟨g, cap, rfl, HE.out, HCh.out⟩

def newOk (count cap : Int) (zs : List Int) : Prop := 2 ≤ count ∧ count ≤ cap ∧ cap ≤ 524287 ∧ riseK count 1 zs = true
def PS.new (count cap : Int) (zs : List Int) : PS := { size := count.toNat, cap := cap.toNat, free := back zs 0, pins := [], wr := 0 }

set_option maxRecDepth 100000 in
theorem new_no (w : World) (v : Value) (zs : List Int) (h : SeesI w v zs) (count cap : Int) (hl : zs.length ≤ 9223372036854775807) (hno : ¬ newOk count cap zs) :
    Calls Tryz.prog 6 #[.int .i64 count, .int .i64 cap, v] w fun e w' => e = .returned (.pointer none) ∧ w = w' := by
  have HS := Lib.hid h
  obtain ⟨a, c, rfl, _⟩ := h
  have hmm := @run_makeMap Tryz.prog
  unfold newOk at hno
  by_cases h1 : count < 2
  · clear hno
    go_enter Tryz.func6, Tryz.ntmps6
    go_wp2
    go_ret
    exact ⟨rfl, rfl⟩
  · by_cases h2 : cap < count
    · clear hno
      go_enter Tryz.func6, Tryz.ntmps6
      go_wp2
      go_ret
      exact ⟨rfl, rfl⟩
    · by_cases h3 : 524287 < cap
      · clear hno
        go_enter Tryz.func6, Tryz.ntmps6
        go_wp2
        go_ret
        exact ⟨rfl, rfl⟩
      · have hr : riseK count 1 zs = false := by
          cases e : riseK count 1 zs with
          | false => rfl
          | true => exact (hno ⟨by omega, by omega, by omega, e⟩).elim
        have HR := Lib.hid hr
        clear hno hr
        go_enter Tryz.func6, Tryz.ntmps6
        go_wp2_with (go_at_call 21; refine (rise_any _ _ zs HS.out _ hl).mono ?_; rintro e w' ⟨rfl, rfl⟩; rw [HR.out])
        go_ret
        exact ⟨rfl, rfl⟩
end Go.Proofs.YtipclbibomemjaaGreatDoor
