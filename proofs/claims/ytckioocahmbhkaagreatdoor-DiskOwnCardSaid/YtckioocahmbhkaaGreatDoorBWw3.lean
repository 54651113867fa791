/- Walks: the book's lists of writes: what shows their marks; all of them looked at. -/
import Derived.Test.YtckioocahmbhkaaGreatDoorBWw2
import Derived.Test.YtckioocahmbhkaaGreatDoorWS
import Derived.StillTailTactics
namespace Go.Proofs.YtckioocahmbhkaaGreatDoor
open Go Go.RowKit Go.Maps

theorem writessame_el (w : World) (mv : Int) : Calls Tryz.prog 144 #[.agg #[.int .i64 mv, .slice none 0 0], .agg #[.int .i64 mv, .slice none 0 0]] w fun e w' => e = .returned (.bool true) ∧ Chg (fun _ => False) w w' :=
  samew_any w mv _ _ [] ⟨none, 0, rfl, fun _ => rfl, fun ad e => by cases e⟩ ⟨none, 0, rfl, fun _ => rfl, fun ad e => by cases e⟩
set_option maxRecDepth 100000 in
set_option maxHeartbeats 8000000 in
theorem writesshow_any (w : World) (own : BOwn) (b : Nat) (F : Nat → Value) (hb : BookF 39 w own b F) (c : Int) (hc : F 1 = .int .i64 c) (hcc : 0 ≤ c ∧ c ≤ 1) (id : Int) (h0 : 0 ≤ id) (h1 : id ≤ 1000000) (v : Value) (n : Nat) (hn : n ≤ 134217728) (cs : List Value) (hr : w.ownsRow 0 78 2 v n cs) (hp : writesRow c id n cs) :
    Calls Tryz.prog 130 #[.pointer (some ⟨b, 0, none⟩), v, .int .i64 id] w fun e w' => e = .returned (.bool true) ∧ Chg (fun _ => False) w w' := by
  have HB := Lib.hid hb
  have HC := Lib.hid hc
  have HR := Lib.hid hr
  have HP := Lib.hid hp
  obtain ⟨a, cap, rfl, hcap, _, hg⟩ := bk_slice hr
  have HG := Lib.hid hg
  clear hb hc hr hp hg
  go_enter Tryz.func130, Tryz.ntmps130
  go_wp2_with fail
  go_loopg [7, 8, 9] n (fun gm jv _ _ wr => ∃ (j : Nat), j ≤ n ∧ gm = n - j ∧ jv = .int .i64 j ∧ Chg (fun _ => False) w wr)
  case atStart => exact ⟨0, by omega, rfl, rfl, Chg.refl _ _⟩
  case round =>
    obtain ⟨j, hj, hgm, rfl, hch⟩ := hrel
    have Hg := Lib.hid hgm
    have HCh := Lib.hid hch
    clear hgm hch
    by_cases hlt : j < n
    · obtain ⟨g, rfl⟩ := HG.out (by omega)
      have hji : (j : Int) < (n : Int) := by omega
      have hj0 : (0 : Int) ≤ (j : Int) := by omega
      obtain ⟨p, q, hp, hq, rfl, rfl⟩ := HP.out j hlt
      have hrr := ownsRow_chg HR.out HCh.out (fun _ _ f => f)
      obtain ⟨mv, hmv⟩ : ∃ mv : Int, mv = (id * 1000 + 2 * (j : Int) + c) := ⟨_, rfl⟩
      have HMv := Lib.hid hmv
      have r0 : wr.cell? ⟨g, j * 2, none⟩ = some (.int .i64 mv) := by
        have h := hrr.cells rfl (j * 2) _ hp
        rw [bk_add, Nat.zero_add] at h
        rw [hmv]
        exact h
      have r1 : wr.cell? ⟨g, j * 2 + 1, none⟩ = some (.slice none 0 0) := by
        have h := hrr.cells rfl (j * 2 + 1) _ hq
        rw [bk_add, Nat.zero_add] at h
        exact h
      have HBr := Lib.hid (HB.out.step (OStep.of0 (R := fun _ => False) HB.out.lt HCh.out) (fun f => f))
      clear hp hq hrr hmv
      go_wp2_with fail
      refine (writesmark_any wr own b F HBr.out c HC.out hcc id (j : Int) h0 h1 (by omega) (by omega)).mono ?_
      rintro e w5 ⟨rfl, hc5⟩
      rw [← HMv.out]
      have HC5 := Lib.hid hc5
      clear hc5
      go_wp2_with fail
      obtain ⟨w6, hw6⟩ : ∃ w6, w6 = w5.alloc (.cells #[.int .i64 mv, .slice none 0 0] 78) := ⟨_, rfl⟩
      have hh6 : w6.heap[w5.heap.size]? = some (.cells #[.int .i64 mv, .slice none 0 0] 78) := by rw [hw6]; exact bk_new w5 _
      have hc6 : Chg (fun _ => False) w5 w6 := by rw [hw6]; exact (Chg.refl _ w5).alloc _
      rw [← hw6]
      have HC6 : Hid (Chg (fun _ => False) wr w6) := Lib.hid (HC5.out.trans hc6 (fun _ f => f.elim))
      have s0 := bk_cell HC6.out r0 (fun f => f)
      have s1 := bk_cell HC6.out r1 (fun f => f)
      have s2 : w6.cell? ⟨w5.heap.size, 0, none⟩ = some (.int .i64 mv) := by simp [World.cell?, hh6]
      have s3 : w6.cell? ⟨w5.heap.size, 1, none⟩ = some (.slice none 0 0) := by simp [World.cell?, hh6]
      clear r0 r1 hw6 hh6 hc6
      go_region_held3 (fun w' => w'.cell? ⟨g, j * 2, none⟩ = some (.int .i64 mv) ∧ w'.cell? ⟨g, j * 2 + 1, none⟩ = some (.slice none 0 0) ∧ w'.cell? ⟨w5.heap.size, 0, none⟩ = some (.int .i64 mv) ∧ w'.cell? ⟨w5.heap.size, 1, none⟩ = some (.slice none 0 0))
        (first
          | exact kx7
          | go_keep)
        ((go_simp; go_at_call 144; refine (writessame_el _ mv).mono ?_; rintro e w7 ⟨rfl, hc7⟩; have C7 : Hid (Chg (fun _ => False) w6 w7) := Lib.hid (((Chg.refl _ w6).drew).trans hc7 (fun _ f => f.elim)); have kx7 := And.intro (bk_cell C7.out s0 (fun f => f)) (And.intro (bk_cell C7.out s1 (fun f => f)) (And.intro (bk_cell C7.out s2 (fun f => f)) (bk_cell C7.out s3 (fun f => f)))); clear hc7))
      all_goals
        go_wp2_with fail
        go_roundg (n - (j + 1))
        case measure => have := Hg.out; omega
        case rel => exact ⟨j + 1, by omega, rfl, by go_num, (HCh.out.trans HC6.out (fun _ f => f.elim)).trans C7.out (fun _ f => f.elim)⟩
    · have hji : ¬ (j : Int) < (n : Int) := by omega
      go_wp2_with fail
      go_ret
      exact ⟨rfl, HCh.out⟩

set_option maxRecDepth 100000 in
set_option maxHeartbeats 8000000 in
theorem writeshold_any (w : World) (own : BOwn) (b : Nat) (F : Nat → Value) (hb : BookF 39 w own b F) (c : Int) (hc : F 1 = .int .i64 c) (hcc : 0 ≤ c ∧ c ≤ 1) (rv gv : Value) (xs gs : List (Value × Nat)) (hrv : F 29 = rv) (hgv : F 31 = gv) (hx : RowK w own 54 29 rv xs) (hg : RowK w own 54 31 gv gs) (hgl : gs = [] ∨ gs.length = xs.length)
    (id0 : Int) (h0 : 0 ≤ id0) (h1 : id0 + xs.length ≤ 1000000) (hX : Lists w own 11 78 2 xs (fun i n cs => writesRow c (id0 + i + 1) n cs)) (hG : Lists w own 11 78 2 gs (fun i n cs => writesRow c (id0 + i + 1) n cs)) (hsx : ∀ x ∈ xs, x.2 ≤ 134217728) (hsg : ∀ x ∈ gs, x.2 ≤ 134217728) :
    Calls Tryz.prog 71 #[.pointer (some ⟨b, 0, none⟩), .int .i64 id0] w fun e w' => e = .returned (.tuple #[.int .i64 (id0 + xs.length), .bool true]) ∧ Chg (fun _ => False) w w' := by
  have HB := Lib.hid hb
  have HC := Lib.hid hc
  have k1 := hb.cell 29 (by omega)
  rw [hrv] at k1
  have k2 := hb.cell 31 (by omega)
  rw [hgv] at k2
  obtain ⟨ra, rc, rfl⟩ := hx.shape
  obtain ⟨ga, gc, rfl⟩ := hg.shape
  have HX := Lib.hid hx
  have HG := Lib.hid hg
  have HXL := Lib.hid hX
  have HGL := Lib.hid hG
  have HGl := Lib.hid hgl
  have HSx := Lib.hid hsx
  have HSg := Lib.hid hsg
  have HK1 := Lib.hid k1
  have HK2 := Lib.hid k2
  clear hb hc hrv hgv hx hg hgl hX hG hsx hsg
  go_enter Tryz.func71, Tryz.ntmps71
  go_wp2_with fail
  clear k1 k2
  go_loopg [1, 6, 7, 8, 9] xs.length (fun gm dv av iv _ _ wr => ∃ (i : Nat), i ≤ xs.length ∧ gm = xs.length - i ∧ iv = .int .i64 i ∧ dv = .int .i64 (id0 + i) ∧ av = .bool true ∧ Chg (fun _ => False) w wr)
  case atStart => exact ⟨0, by omega, rfl, rfl, by simp, rfl, Chg.refl _ _⟩
  case round =>
    obtain ⟨i, hi, hgm, rfl, rfl, rfl, hch⟩ := hrel
    have Hg := Lib.hid hgm
    have HCh := Lib.hid hch
    have k1 := bk_cell hch HK1.out (fun f => f)
    have k2 := bk_cell hch HK2.out (fun f => f)
    have HBr := Lib.hid (HB.out.step (OStep.of0 (R := fun _ => False) HB.out.lt hch) (fun f => f))
    clear hgm hch
    by_cases hlt : i < xs.length
    · obtain ⟨x, hxi⟩ : ∃ x, xs[i]? = some x := ⟨_, List.getElem?_eq_getElem hlt⟩
      obtain ⟨gr, rc', er, -, hcell0, -⟩ := HX.out.at' hxi
      cases er
      have hcell := bk_cell HCh.out hcell0 (fun f => f)
      have hji : (i : Int) < (xs.length : Int) := by omega
      have hj0 : (0 : Int) ≤ (i : Int) := by omega
      obtain ⟨cs, hro, hcs, -⟩ := HXL.out i x hxi
      have HRo := Lib.hid (ownsRow_chg hro HCh.out (fun _ _ f => f))
      have HCs := Lib.hid hcs
      have hxs := HSx.out x (List.mem_of_getElem? hxi)
      have HXs := Lib.hid hxs
      clear hro hcs hxi hxs hcell0
      go_wp2_with fail
      refine (writesshow_any wr own b F HBr.out c HC.out hcc (id0 + (i : Int) + 1) (by omega) (by omega) x.1 x.2 HXs.out cs HRo.out HCs.out).mono ?_
      rintro e w5 ⟨rfl, hc5⟩
      have HC5 := Lib.hid (HCh.out.trans hc5 (fun _ f => f.elim))
      have l1 := bk_cell HC5.out HK1.out (fun f => f)
      have l2 := bk_cell HC5.out HK2.out (fun f => f)
      have HB5 := Lib.hid (HB.out.step (OStep.of0 (R := fun _ => False) HB.out.lt HC5.out) (fun f => f))
      clear hc5 k1 k2 hcell
      by_cases hgi : i < gs.length
      · obtain ⟨y, hyi⟩ : ∃ y, gs[i]? = some y := ⟨_, List.getElem?_eq_getElem hgi⟩
        obtain ⟨gr2, gc', er, -, hcell0, -⟩ := HG.out.at' hyi
        cases er
        have hcell2 := bk_cell HC5.out hcell0 (fun f => f)
        have hgi2 : (i : Int) < (gs.length : Int) := by omega
        obtain ⟨cs2, hro, hcs, -⟩ := HGL.out i y hyi
        have HRo2 := Lib.hid (ownsRow_chg hro HC5.out (fun _ _ f => f))
        have HCs2 := Lib.hid hcs
        have hxs := HSg.out y (List.mem_of_getElem? hyi)
        have HXs2 := Lib.hid hxs
        clear hro hcs hyi hxs hcell0
        go_wp2_with fail
        refine (writesshow_any w5 own b F HB5.out c HC.out hcc (id0 + (i : Int) + 1) (by omega) (by omega) y.1 y.2 HXs2.out cs2 HRo2.out HCs2.out).mono ?_
        rintro e w6 ⟨rfl, hc6⟩
        have HC6 := Lib.hid (HC5.out.trans hc6 (fun _ f => f.elim))
        clear hc6
        go_wp2_with fail
        go_roundg (xs.length - (i + 1))
        case measure => have := Hg.out; omega
        case rel => exact ⟨i + 1, by omega, rfl, by go_num, by go_num, rfl, HC6.out⟩
      · have hgi2 : ¬ (i : Int) < (gs.length : Int) := by omega
        go_wp2_with fail
        go_roundg (xs.length - (i + 1))
        case measure => have := Hg.out; omega
        case rel => exact ⟨i + 1, by omega, rfl, by go_num, by go_num, rfl, HC5.out⟩
    · have hji : ¬ (i : Int) < (xs.length : Int) := by omega
      have hin : i = xs.length := by omega
      subst hin
      go_wp2_with fail
      go_ret2
      exact ⟨rfl, HCh.out⟩
end Go.Proofs.YtckioocahmbhkaaGreatDoor
