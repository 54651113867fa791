/- Walks: the law PoolNews. -/
import Derived.Test.YtipclbibomemjaaV12
import Derived.Test.YtipclbibomemjaaQ2
namespace Go.Proofs.Ytipclbibomemjaa
open Go Go.RowKit Go.Maps

theorem new_small {count cap : Int} {free : List Int} (h : newOk count cap free) : (PS.new count cap free).small :=
  ⟨new_ok h, by have := h.2.2.1; show cap.toNat ≤ 600000; omega, by show 0 < 1000000; omega, by show 0 < 1000000; omega⟩

def TrueB (w : World) (e : Ending) (w' : World) : Prop := e = .returned (.bool true) ∧ Below w.heap.size w w'
theorem TrueB.mk {w w' : World} (h : Below w.heap.size w w') : TrueB w (.returned (.bool true)) w' := ⟨rfl, h⟩
theorem below_chg {w wa wb : World} (h : Below w.heap.size w wa) (hc : Chg (fun _ => False) wa wb) : Below w.heap.size w wb := h.trans ((hc.toBelow (fun _ f => f.elim)).mono h.size)

set_option maxRecDepth 100000 in
theorem news_few (w : World) (count cap : Int) (v : Value) (zs : List Int) (h : SeesI w v zs) (hno : 20000 < cap ∧ cap ≤ 524287 ∨ 4000 < zs.length) :
    Calls Try.prog 3 #[.int .i64 count, .int .i64 cap, v] w (TrueB w) := by
  obtain ⟨a, c, rfl⟩ := h.slice
  clear h
  by_cases h1 : 20000 < cap
  · by_cases h2 : cap ≤ 524287
    · clear hno
      go_enter Try.func3, Try.ntmps3
      go_wp2_with (go_at_call 7; refine (first_any _).mono ?_; rintro e wa ⟨rfl, ba⟩; have BA := Lib.hid ba; clear ba)
      go_ret
      exact TrueB.mk BA.out
    · have h3 : (4000 : Int) < (zs.length : Int) := by omega
      clear hno
      go_enter Try.func3, Try.ntmps3
      go_wp2_with (go_at_call 7; refine (first_any _).mono ?_; rintro e wa ⟨rfl, ba⟩; have BA := Lib.hid ba; clear ba)
      go_ret
      exact TrueB.mk BA.out
  · have h3 : (4000 : Int) < (zs.length : Int) := by omega
    clear hno
    go_enter Try.func3, Try.ntmps3
    go_wp2_with (go_at_call 7; refine (first_any _).mono ?_; rintro e wa ⟨rfl, ba⟩; have BA := Lib.hid ba; clear ba)
    go_ret
    exact TrueB.mk BA.out

set_option maxRecDepth 100000 in
theorem news_no (w : World) (count cap : Int) (v : Value) (zs : List Int) (h : SeesI w v zs) (h1 : ¬ (20000 < cap ∧ cap ≤ 524287)) (h2 : zs.length ≤ 4000) (hno : ¬ newOk count cap zs) :
    Calls Try.prog 3 #[.int .i64 count, .int .i64 cap, v] w (TrueB w) := by
  have HS := Lib.hid h
  have HN := Lib.hid hno
  obtain ⟨a, c, rfl⟩ := h.slice
  have h3 : ¬ (4000 : Int) < (zs.length : Int) := by omega
  clear h hno
  by_cases h4 : 20000 < cap
  · have h5 : ¬ cap ≤ 524287 := fun e => h1 ⟨h4, e⟩
    clear h1
    go_enter Try.func3, Try.ntmps3
    go_wp2_with (first
      | (go_at_call 7; refine (first_any _).mono ?_; rintro e wa ⟨rfl, ba⟩; have BA := Lib.hid ba; clear ba)
      | (go_at_call 8; refine (begin_no _ _ zs (HS.out.under BA.out) _ _ h2 HN.out).mono ?_; rintro e wb ⟨b, rfl, hb, hc, _⟩; have c0 : wb.cell? ⟨b, 0, none⟩ = some (.pointer none) := (by simp [World.cell?, hb]); have BB := Lib.hid (below_chg BA.out hc); clear hb hc))
    go_ret
    exact TrueB.mk BB.out
  · clear h1
    go_enter Try.func3, Try.ntmps3
    go_wp2_with (first
      | (go_at_call 7; refine (first_any _).mono ?_; rintro e wa ⟨rfl, ba⟩; have BA := Lib.hid ba; clear ba)
      | (go_at_call 8; refine (begin_no _ _ zs (HS.out.under BA.out) _ _ h2 HN.out).mono ?_; rintro e wb ⟨b, rfl, hb, hc, _⟩; have c0 : wb.cell? ⟨b, 0, none⟩ = some (.pointer none) := (by simp [World.cell?, hb]); have BB := Lib.hid (below_chg BA.out hc); clear hb hc))
    go_ret
    exact TrueB.mk BB.out

set_option maxRecDepth 100000 in
theorem news_go (w : World) (count cap : Int) (v : Value) (zs : List Int) (h : SeesI w v zs) (h1 : cap ≤ 20000) (h2 : zs.length ≤ 4000) (hyes : newOk count cap zs) :
    Calls Try.prog 3 #[.int .i64 count, .int .i64 cap, v] w (TrueB w) := by
  have HS := Lib.hid h
  have HY := Lib.hid hyes
  obtain ⟨a, c, rfl⟩ := h.slice
  have h3 : ¬ (4000 : Int) < (zs.length : Int) := by omega
  have h4 : ¬ 20000 < cap := by omega
  clear h hyes h1
  go_enter Try.func3, Try.ntmps3
  go_wp2_with (first
    | (go_at_call 7; refine (first_any _).mono ?_; rintro e wa ⟨rfl, ba⟩; have BA := Lib.hid ba; clear ba)
    | (go_at_call 8; refine (begin_yes _ _ zs (HS.out.under BA.out) _ _ h2 HY.out).mono ?_; rintro e wb ⟨b, pb, m1, m2, rb, T, T2, rfl, hp, hc, _⟩; have c0 := hp.cells.1; have HP := Lib.hid hp; have BB := Lib.hid (below_chg BA.out hc); clear hp hc)
    | (go_at_call 9; refine (tells_any HP.out (new_small HY.out)).mono ?_; rintro e wc ⟨rfl, hc⟩; have BC := Lib.hid (below_chg BB.out hc); clear hc))
  go_ret
  exact TrueB.mk BC.out

theorem news_any (w : World) (count cap : Int) (v : Value) (zs : List Int) (h : SeesI w v zs) : Calls Try.prog 3 #[.int .i64 count, .int .i64 cap, v] w (TrueB w) := by
  by_cases h1 : 20000 < cap ∧ cap ≤ 524287 ∨ 4000 < zs.length
  · exact news_few w count cap v zs h h1
  · by_cases h2 : newOk count cap zs
    · exact news_go w count cap v zs h (by have := h2.2.2.1; omega) (by omega) h2
    · exact news_no w count cap v zs h (by omega) (by omega) h2
end Go.Proofs.Ytipclbibomemjaa
