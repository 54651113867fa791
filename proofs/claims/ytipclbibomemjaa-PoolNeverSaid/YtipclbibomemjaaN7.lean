/- Walks: a life's taken. -/
import Derived.Test.YtipclbibomemjaaN6
import Derived.Deep.CutBlock
namespace Go.Proofs.Ytipclbibomemjaa
open Go Go.RowKit Go.Maps

theorem hasK_false {zs : List Int} {x : Int} (h : x ∉ zs) : hasK zs x = false := by
  unfold hasK
  rw [List.contains_eq_mem]
  exact decide_eq_false h
def TookAt (w : World) (own : OwnR) (xb pb m1 m2 : Nat) (D' : LD) (r : Bool) (e : Ending) (w' : World) : Prop :=
  e = .returned (.bool r) ∧ ∃ own' mv fv sv pv, LifeF w' own' xb pb m1 m2 D' mv fv sv pv ∧ OStep w own w' own'

set_option maxRecDepth 100000 in
set_option maxHeartbeats 8000000 in
theorem taken_new {w : World} {own : OwnR} {xb pb m1 m2 : Nat} {D : LD} {mv fv sv pv : Value} (h : LifeF w own xb pb m1 m2 D mv fv sv pv) (no count : Int) (hm : no ∉ D.mine) (h2 : 2 ≤ no) (hf : no ∉ D.fs) (hl1 : D.mine.length ≤ 1000000) (hl2 : D.fs.length ≤ 1000000) :
    Calls Try.prog 39 #[.pointer (some ⟨xb, 0, none⟩), .int .i64 no, .int .i64 count] w (TookAt w own xb pb m1 m2 { D with mine := D.mine ++ [no] } (decide (count ≤ no))) := by
  have HF := Lib.hid h
  obtain ⟨_, c1, c2, _, _, _, cf⟩ := h.cells
  have f1 := cf 1
  obtain ⟨ma, mc, rfl, _, _, _⟩ := ownsRow_slice h.mine
  obtain ⟨fa, fc, rfl, _, _, _⟩ := ownsRow_slice h.free
  obtain ⟨N, hN⟩ : ∃ N, N = D.fs.length := ⟨_, rfl⟩
  have HN := Lib.hid hN
  rw [← hN] at c2 hl2 HF
  have HS := Lib.hid (SeesI.of_row h.mine)
  have HH := Lib.hid (hasK_false hm)
  have HNf := Lib.hid hf
  have hl9 : D.mine.length ≤ 9223372036854775807 := by omega
  have hno2 : ¬ no < 2 := by omega
  clear h hN cf hf hm
  go_enter Try.func39, Try.ntmps39
  go_wp2_with (first
    | (go_at_call 17; refine (has_any _ _ D.mine HS.out no hl9).mono ?_; rintro e ww ⟨rfl, rfl⟩; rw [HH.out])
    | fail)
  go_loopg [8] N (fun gm iv wr => ∃ (k : Nat), k ≤ N ∧ gm = N - k ∧ iv = .int .i64 k ∧ w = wr)
  case atStart => exact ⟨0, by omega, rfl, rfl, rfl⟩
  case round =>
    obtain ⟨k, hk, hg, rfl, rfl⟩ := hrel
    have Hg := Lib.hid hg
    clear hg
    by_cases hlt : k < N
    · obtain ⟨y, hy⟩ : ∃ y, D.fs[k]? = some y := ⟨_, List.getElem?_eq_getElem (by rw [← HN.out]; exact hlt)⟩
      obtain ⟨g, e, cx⟩ := pins_cell (n := N) (by have := HF.out.free; rw [← HN.out] at this; exact this) hy
      cases e
      have hyn : (y == no) = false := by
        rw [beq_eq_false_iff_ne]
        intro e
        exact HNf.out (e ▸ List.mem_of_getElem? hy)
      have hki : (k : Int) < (N : Int) := by omega
      have hk0 : (0 : Int) ≤ (k : Int) := by omega
      clear hy
      go_wp2_with fail
      go_roundg (N - (k + 1))
      case measure => have := Hg.out; omega
      case rel => exact ⟨k + 1, by omega, rfl, by go_num, rfl⟩
    · have HRow := Lib.hid HF.out.mine
      have hki : ¬ (k : Int) < (N : Int) := by omega
      go_wp2_with (first
        | (at_builtin; refine app_int rfl _ _ rfl _ D.mine rfl HRow.out no rfl (by omega) ?_; intro g5 cap5 w5 hr5 hc5 hat5; have HR5 := Lib.hid hr5; have HC5 := Lib.hid hc5; have HA5 := Lib.hid hat5; have d5 : w5.cell? ⟨xb, 1, none⟩ = some (.slice ma D.mine.length mc) := hc5.get_cell c1 (fun e => (by have := HF.out.rm _ e; rw [HF.out.r0] at this; cases this)); have f5 : w5.frozen? ⟨xb, 1, none⟩ = false := (by have := hc5.get HF.out.blk (fun e => (by have := HF.out.rm _ e; rw [HF.out.r0] at this; cases this)); simp [World.frozen?, this]); clear hr5 hc5 hat5)
        | fail)
      go_ret
      obtain ⟨e1, e2⟩ := HF.out.set_mine (zs := D.mine ++ [no]) (v' := .slice (some ⟨g5, 0, none⟩) (D.mine.length + 1) cap5) HC5.out (fun k e => HF.out.rm k e) (by rw [List.length_append]; exact HR5.out) (fun g e => by
        rw [← own_some e]
        exact HA5.out.imp (fun e => HF.out.rm _ e) (fun e => Nat.le_of_lt e))
      exact ⟨rfl, _, _, _, _, _, e1, e2⟩

set_option maxRecDepth 100000 in
set_option maxHeartbeats 8000000 in
theorem taken_old {w : World} {own : OwnR} {xb pb m1 m2 : Nat} {D : LD} {mv fv sv pv : Value} (h : LifeF w own xb pb m1 m2 D mv fv sv pv) (no count : Int) (hm : no ∉ D.mine) (h2 : 2 ≤ no) (i : Nat) (s : Int) (hi : D.fs[i]? = some no) (hni : no ∉ D.fs.take i) (his : D.ss[i]? = some s) (hp : pinnedK D.pn s = false) (hl1 : D.mine.length ≤ 1000000) (hl2 : D.fs.length ≤ 1000000) (hl3 : D.ss.length ≤ 1000000) (hl4 : D.pn.length ≤ 1000000) :
    Calls Try.prog 39 #[.pointer (some ⟨xb, 0, none⟩), .int .i64 no, .int .i64 count] w (TookAt w own xb pb m1 m2 { D with mine := D.mine ++ [no], fs := dropAt D.fs i, ss := dropAt D.ss i } true) := by
  have HFo := Lib.hid h
  obtain ⟨_, c1, c2, c3, _, _, _⟩ := h.cells
  obtain ⟨ma, mc, rfl, _, _, _⟩ := ownsRow_slice h.mine
  obtain ⟨fa, fc, rfl, _, _, _⟩ := ownsRow_slice h.free
  obtain ⟨sa, sc, rfl, _, _, _⟩ := ownsRow_slice h.since
  obtain ⟨N, hN⟩ : ∃ N, N = D.fs.length := ⟨_, rfl⟩
  obtain ⟨N3, hN3⟩ : ∃ N, N = D.ss.length := ⟨_, rfl⟩
  have HN := Lib.hid hN
  have HN3 := Lib.hid hN3
  have HF : Hid (LifeF w own xb pb m1 m2 D (.slice ma D.mine.length mc) (.slice fa N fc) (.slice sa N3 sc) pv) := Lib.hid (by rw [hN, hN3]; exact h)
  rw [← hN] at c2 hl2
  rw [← hN3] at c3
  have HS := Lib.hid (SeesI.of_row h.mine)
  have HH := Lib.hid (hasK_false hm)
  have HI := Lib.hid hi
  have HNi := Lib.hid hni
  have HIs := Lib.hid his
  have HP := Lib.hid hp
  have hiN : i < N := by rw [hN]; exact (List.getElem?_eq_some_iff.1 hi).1
  have hiN3 : i < N3 := by rw [hN3]; exact (List.getElem?_eq_some_iff.1 his).1
  have hl9 : D.mine.length ≤ 9223372036854775807 := by omega
  have hno2 : ¬ no < 2 := by omega
  clear h hN hN3 hm hi hni his hp
  go_enter Try.func39, Try.ntmps39
  go_wp2_with (first
    | (go_at_call 17; refine (has_any _ _ D.mine HS.out no hl9).mono ?_; rintro e ww ⟨rfl, rfl⟩; rw [HH.out])
    | fail)
  go_loopg [8] (i + 1) (fun gm iv wr => ∃ (k : Nat), k ≤ i ∧ gm = i + 1 - k ∧ iv = .int .i64 k ∧ w = wr)
  case atStart => exact ⟨0, by omega, rfl, rfl, rfl⟩
  case round =>
    obtain ⟨k, hk, hg, rfl, rfl⟩ := hrel
    have Hg := Lib.hid hg
    clear hg
    have hki : (k : Int) < (N : Int) := by omega
    have hk0 : (0 : Int) ≤ (k : Int) := by omega
    by_cases hlt : k < i
    · obtain ⟨y, hy⟩ : ∃ y, D.fs[k]? = some y := ⟨_, List.getElem?_eq_getElem (by rw [← HN.out]; omega)⟩
      obtain ⟨g, e, cx⟩ := pins_cell (n := N) (by have := HF.out.free; rw [← HN.out] at this; exact this) hy
      cases e
      have hyn : (y == no) = false := by
        rw [beq_eq_false_iff_ne]
        intro e
        refine HNi.out (e ▸ List.mem_of_getElem? (i := k) ?_)
        rw [List.getElem?_take, if_pos hlt]; exact hy
      clear hy
      go_wp2_with fail
      go_roundg (i + 1 - (k + 1))
      case measure => have := Hg.out; omega
      case rel => exact ⟨k + 1, by omega, rfl, by go_num, rfl⟩
    · obtain rfl : k = i := by omega
      obtain ⟨g, e, cx⟩ := pins_cell (n := N) (by have := HF.out.free; rw [← HN.out] at this; exact this) HI.out
      cases e
      obtain ⟨gs, e, cs⟩ := pins_cell (n := N3) (by have := HF.out.since; rw [← HN3.out] at this; exact this) HIs.out
      cases e
      have hyn : (no == no) = true := beq_self_eq_true _
      have hki3 : (k : Int) < (N3 : Int) := by omega
      go_upto_region 10 with (go_at_call 18; refine (pinned_any HF.out hl4 s).mono ?_; rintro e ww ⟨rfl, rfl⟩; rw [HP.out])
      refine tk_since HF.out k (by rw [← HN3.out]; exact hiN3) hl3 ?_
      intro u47 u48 u49 u50 u51 u52 u53 u54 u55 u56 u57 u58 u59 u60 u61 u62 u63 u64 u65 w1 h1
      obtain ⟨own1, sv1, h1, s1⟩ := h1
      have HF1 := Lib.hid h1
      have S1 := Lib.hid s1
      clear h1 s1 c1 c2 c3 cx cs
      go_upto_region 11 with fail
      refine tk_free HF1.out k (by show k < D.fs.length; rw [← HN.out]; exact hiN) (by show D.fs.length ≤ 1000000; rw [← HN.out]; exact hl2) ?_
      intro u66 u67 u68 u69 u70 u71 u72 u73 u74 u75 u76 u77 u78 u79 u80 u81 u82 u83 u84 w2 h2
      obtain ⟨own2, fv2, h2, s2⟩ := h2
      have HF2 := Lib.hid h2
      have S2 := Lib.hid (S1.out.trans s2)
      have HRow := Lib.hid h2.mine
      have d1 := h2.cells.2.1
      have f1 := h2.cells.2.2.2.2.2.2 1
      clear h2 s2 HF1 S1
      go_wp2_with (first
        | (at_builtin; refine app_int rfl _ _ rfl _ D.mine rfl HRow.out no rfl (by omega) ?_; intro g5 cap5 w5 hr5 hc5 hat5; have HR5 := Lib.hid hr5; have HC5 := Lib.hid hc5; have HA5 := Lib.hid hat5; have d5 : w5.cell? ⟨xb, 1, none⟩ = some (.slice ma D.mine.length mc) := hc5.get_cell d1 (fun e => (by have := HF2.out.rm _ e; rw [HF2.out.r0] at this; cases this)); have f5 : w5.frozen? ⟨xb, 1, none⟩ = false := (by have := hc5.get HF2.out.blk (fun e => (by have := HF2.out.rm _ e; rw [HF2.out.r0] at this; cases this)); simp [World.frozen?, this]); clear hr5 hc5 hat5)
        | fail)
      go_ret
      obtain ⟨e1, e2⟩ := HF2.out.set_mine (zs := D.mine ++ [no]) (v' := .slice (some ⟨g5, 0, none⟩) (D.mine.length + 1) cap5) HC5.out (fun k e => HF2.out.rm k e) (by rw [List.length_append]; exact HR5.out) (fun g e => by
        rw [← own_some e]
        exact HA5.out.imp (fun e => HF2.out.rm _ e) (fun e => Nat.le_of_lt e))
      exact ⟨rfl, _, _, _, _, _, e1, S2.out.trans e2⟩
end Go.Proofs.Ytipclbibomemjaa
