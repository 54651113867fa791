/- Walks: the book's lists of bytes: all of them looked at; written over. -/
import Derived.Test.YtckioocahmbhkaaGreatDoorBKb2
namespace Go.Proofs.YtckioocahmbhkaaGreatDoor
open Go Go.RowKit Go.Maps

set_option maxRecDepth 100000 in
set_option maxHeartbeats 8000000 in
theorem byteshold_any (w : World) (own : BOwn) (b : Nat) (F : Nat → Value) (hb : BookF 39 w own b F) (c : Int) (hc : F 1 = .int .i64 c) (hcc : 0 ≤ c ∧ c ≤ 1) (rv gv : Value) (xs gs : List (Value × Nat)) (hrv : F 2 = rv) (hgv : F 4 = gv) (hx : RowK w own 47 2 rv xs) (hg : RowK w own 47 4 gv gs) (hgl : gs = [] ∨ gs.length = xs.length)
    (id0 : Int) (h0 : 0 ≤ id0) (h1 : id0 + xs.length ≤ 1000000) (hX : Lists w own 2 5 1 xs (fun i n cs => cs = bytesmarks c (id0 + i + 1) n)) (hG : Lists w own 2 5 1 gs (fun i n cs => cs = bytesmarks c (id0 + i + 1) n)) (hsx : ∀ x ∈ xs, x.2 ≤ 134217728) (hsg : ∀ x ∈ gs, x.2 ≤ 134217728) :
    Calls Tryz.prog 62 #[.pointer (some ⟨b, 0, none⟩), .int .i64 id0] w fun e w' => e = .returned (.tuple #[.int .i64 (id0 + xs.length), .bool true]) ∧ w = w' := by
  have HB := Lib.hid hb
  have HC := Lib.hid hc
  have k1 := hb.cell 2 (by omega)
  rw [hrv] at k1
  have k2 := hb.cell 4 (by omega)
  rw [hgv] at k2
  obtain ⟨ra, rc, rfl⟩ := hx.shape
  obtain ⟨ga, gc, rfl⟩ := hg.shape
  have HX := Lib.hid hx
  have HG := Lib.hid hg
  have HXL := Lib.hid hX
  have HGL := Lib.hid hG
  have HGl := Lib.hid hgl
  have HSx := Lib.hid hsx
  have HSg := Lib.hid hsg
  clear hb hc hrv hgv hx hg hgl hX hG hsx hsg
  go_enter Tryz.func62, Tryz.ntmps62
  go_wp2_with fail
  go_loopg [1, 6, 7, 8, 9] xs.length (fun gm dv av iv _ _ wr => ∃ (i : Nat), i ≤ xs.length ∧ gm = xs.length - i ∧ iv = .int .i64 i ∧ dv = .int .i64 (id0 + i) ∧ av = .bool true ∧ w = wr)
  case atStart => exact ⟨0, by omega, rfl, rfl, by simp, rfl, rfl⟩
  case round =>
    obtain ⟨i, hi, hgm, rfl, rfl, rfl, rfl⟩ := hrel
    have Hg := Lib.hid hgm
    clear hgm
    by_cases hlt : i < xs.length
    · obtain ⟨x, hxi⟩ : ∃ x, xs[i]? = some x := ⟨_, List.getElem?_eq_getElem hlt⟩
      obtain ⟨gr, rc', er, -, hcell, -⟩ := HX.out.at' hxi
      cases er
      have hji : (i : Int) < (xs.length : Int) := by omega
      have hj0 : (0 : Int) ≤ (i : Int) := by omega
      obtain ⟨cs, hro, hcs, -⟩ := HXL.out i x hxi
      subst hcs
      have HRo := Lib.hid hro
      have hxs := HSx.out x (List.mem_of_getElem? hxi)
      have HXs := Lib.hid hxs
      clear hro hxi hxs
      go_wp2_with fail
      refine (bytesshow_any _ own b F HB.out c HC.out hcc (id0 + (i : Int) + 1) (by omega) (by omega) x.1 x.2 HXs.out HRo.out).mono ?_
      rintro e w' ⟨rfl, rfl⟩
      by_cases hgi : i < gs.length
      · obtain ⟨y, hyi⟩ : ∃ y, gs[i]? = some y := ⟨_, List.getElem?_eq_getElem hgi⟩
        obtain ⟨gr2, gc', er, -, hcell2, -⟩ := HG.out.at' hyi
        cases er
        have hgi2 : (i : Int) < (gs.length : Int) := by omega
        obtain ⟨cs, hro, hcs, -⟩ := HGL.out i y hyi
        subst hcs
        have HRo2 := Lib.hid hro
        have hxs := HSg.out y (List.mem_of_getElem? hyi)
        have HXs2 := Lib.hid hxs
        clear hro hyi hxs
        go_wp2_with fail
        refine (bytesshow_any _ own b F HB.out c HC.out hcc (id0 + (i : Int) + 1) (by omega) (by omega) y.1 y.2 HXs2.out HRo2.out).mono ?_
        rintro e w' ⟨rfl, rfl⟩
        go_wp2_with fail
        go_roundg (xs.length - (i + 1))
        case measure => have := Hg.out; omega
        case rel => exact ⟨i + 1, by omega, rfl, by go_num, by go_num, rfl, rfl⟩
      · have hgi2 : ¬ (i : Int) < (gs.length : Int) := by omega
        go_wp2_with fail
        go_roundg (xs.length - (i + 1))
        case measure => have := Hg.out; omega
        case rel => exact ⟨i + 1, by omega, rfl, by go_num, by go_num, rfl, rfl⟩
    · have hji : ¬ (i : Int) < (xs.length : Int) := by omega
      have hin : i = xs.length := by omega
      subst hin
      go_wp2_with fail
      go_ret2
      exact ⟨rfl, rfl⟩
end Go.Proofs.YtckioocahmbhkaaGreatDoor
