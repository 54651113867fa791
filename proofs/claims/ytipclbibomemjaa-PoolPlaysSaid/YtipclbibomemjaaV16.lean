/- Walks: one call at both pools, more kinds. -/
import Derived.Test.YtipclbibomemjaaV15
namespace Go.Proofs.Ytipclbibomemjaa
open Go Go.RowKit Go.Maps

set_option maxRecDepth 100000 in
set_option maxHeartbeats 8000000 in
theorem plays_3 {w : World} {T T2 : Nat → Prop} {b pb m1 m2 rb : Nat} {P : PS} (h : PairF w T b pb m1 m2 rb T2 P) (hok : P.small) (o : OpD) (ho : o.ok) (ga : Option Addr) (gc : Nat) (hs : SeesI w (.slice ga o.gone.length gc) o.gone) (hl : o.gone.length ≤ 4000) (hfar : ∀ ad, ga = some ad → o.gone ≠ [] → ad.block < w.heap.size ∧ ¬ T ad.block) (hk : o.kind = 3) :
    Calls Try.prog 11 #[.pointer (some ⟨b, 0, none⟩), opV o (.slice ga o.gone.length gc)] w (Played w T b pb m1 m2 rb (P.plays o)) := by
  have H := Lib.hid h
  have Hok := Lib.hid hok
  have HO := Lib.hid ho
  have HS := Lib.hid hs
  have Hfar := Lib.hid hfar
  have hl3 : ¬ (4000 : Int) < (o.gone.length : Int) := by omega
  have hl6 : o.gone.length ≤ 1000000 := by omega
  have hl9 : o.gone.length ≤ 9223372036854775807 := by omega
  have hop := heap_alloc_new w (opObj o (.slice ga o.gone.length gc))
  obtain ⟨w0, hw0⟩ : ∃ w0, w0 = w.alloc (opObj o (.slice ga o.gone.length gc)) := ⟨_, rfl⟩
  obtain ⟨ob, hob⟩ : ∃ ob, ob = w.heap.size := ⟨_, rfl⟩
  rw [← hw0, ← hob] at hop
  have hcw0 : Chg (fun _ => False) w w0 := by rw [hw0]; exact (Chg.refl _ w).alloc _
  have HW0 := Lib.hid hw0
  have HOB := Lib.hid hob
  have Hop := Lib.hid hop
  have HC0 := Lib.hid hcw0
  have q1 : (o.kind == 1) = false := by rw [beq_eq_false_iff_ne]; omega
  have q2 : (o.kind == 2) = false := by rw [beq_eq_false_iff_ne]; omega
  have q3 : (o.kind == 3) = true := by rw [beq_iff_eq]; omega
  have HK := Lib.hid hk
  clear hk
  clear h hok ho hs hfar hw0 hob hop hcw0
  unfold opV
  go_enter Try.func11, Try.ntmps11
  go_wp2_with fail
  change Calls Try.prog 21 _ (w.alloc (opObj o (.slice ga o.gone.length gc))) _
  rw [← HW0.out, ← HOB.out]
  refine (ints_any _ _ o.gone (HS.out.chg0 HC0.out) hl6).mono ?_
  rintro e w1 ⟨g0, cap0, rfl, hN0, hc0⟩
  have N0 := Lib.hid hN0
  have C1 := Lib.hid hc0
  clear hN0 hc0
  have SD0 : Hid (∀ g cp w2, Marked w0 w2 g cp o.gone → Chg (fun _ => False) w0 w2 → Side w0 w2 ob g cp o ga gc) := Lib.hid (fun g cp w2 hm hc => ⟨hc.get Hop.out (fun f => f), hm, (HS.out.chg0 HC0.out).chg0 hc⟩)
  go_upto_block 0 with (first
    | (at_builtin; refine app_two rfl _ _ rfl (.slice (some ⟨g0, 0, none⟩) o.gone.length cap0) o.gone rfl N0.out.1 201 202 rfl (by omega) ?_; intro g cp w2 hr1 hc1 hat1; have M2 : Hid (Marked w0 w2 g cp o.gone) := Lib.hid ⟨hr1, mark_new (N0.out.2 g0 rfl) C1.out.size hat1⟩; have C2 : Hid (Chg (fun _ => False) w0 w2) := Lib.hid (C1.out.news hc1 N0.out.2); have D2 := Lib.hid (SD0.out g cp w2 M2.out C2.out); have hk0 := D2.out.cells.1; clear hr1 hc1 hat1)
    | fail)
  have P2 := Lib.hid (H.out.chg0 (HC0.out.trans C2.out (fun _ f => f.elim)))
  have ST2 : Hid (TStep w T w2 T) := Lib.hid (TStep.of0 (HC0.out.trans C2.out (fun _ f => f.elim)))
  have hcp : o.gone.length + 2 ≤ cp := M2.out.cap
  have hnc : (o.gone.length : Int) ≤ (cp : Int) := by omega
  have hn0 : (0 : Int) ≤ (o.gone.length : Int) := by omega
  have NT : Hid (¬ T ob ∧ ¬ T g ∧ ∀ ad, ga = some ad → o.gone ≠ [] → ¬ T ad.block) := Lib.hid ⟨fun e => by have := H.out.lt _ e; have := HOB.out; omega, fun e => by have h1 := H.out.lt _ e; have h2 := M2.out.new; have h3 := HC0.out.size; omega, fun ad e hne => (Hfar.out ad e hne).2⟩
  obtain ⟨_, o1, o2, o3⟩ := D2.out.cells
  obtain ⟨p0, p1, _⟩ := P2.out.cells
  clear SD0 N0 C1 M2 hk0
  have HP : Hid (P.plays o = P) := Lib.hid (by unfold PS.plays PS.does; first | rw [if_neg (by have := HK.out; omega), if_neg (by have := HK.out; omega), if_neg (by have := HK.out; omega)])
  have OBG : Hid (¬ w2.heap.size ≤ ob ∧ ¬ w2.heap.size ≤ g) := Lib.hid ⟨by have := heap_lt D2.out.op; omega, by have := D2.out.mark.lt; omega⟩
  go_wp2_with fail
  refine (tells_any P2.out Hok.out).mono ?_
  rintro e w4 ⟨rfl, c4⟩
  have P4 : PairF w4 T b pb m1 m2 rb T2 (P.plays o) := by rw [HP.out]; exact P2.out.chg0 c4
  have ST24 : TStep w2 T w4 T := TStep.of0 c4
  have D4 : Hid (Side w0 w4 ob g cp o ga gc) := Lib.hid (D2.out.chg0 c4)
  have ST4 := ST2.out.trans ST24
  clear c4
  obtain ⟨T', T2', HP4, HST, ST24H⟩ : ∃ T' T2', Hid (PairF w4 T' b pb m1 m2 rb T2' (P.plays o)) ∧ Hid (TStep w T w4 T') ∧ Hid (TStep w2 T w4 T') := ⟨_, _, Lib.hid P4, Lib.hid ST4, Lib.hid ST24⟩
  clear ST24
  have D4d := Lib.hid (D4.out.chg0 (Chg.refl (fun _ => False) w4).drew)
  obtain ⟨_, _, _, x3⟩ := D4.out.cells
  obtain ⟨x4, x5⟩ := D4.out.mark.marks
  have NT' : Hid (¬ T' ob ∧ ¬ T' g) := Lib.hid ⟨fun e => (ST24H.out.sub _ e).elim NT.out.1 OBG.out.1, fun e => (ST24H.out.sub _ e).elim NT.out.2.1 OBG.out.2⟩
  have i1 : (o.gone.length : Int) < (o.gone.length : Int) + 2 := by omega
  have i2 : ((o.gone.length : Int) + 1) < (o.gone.length : Int) + 2 := by omega
  have i3 : (0 : Int) ≤ (o.gone.length : Int) + 1 := by omega
  have GN : Hid (w.heap.size ≤ g) := Lib.hid (by have h1 := D4.out.mark.new; have h2 := HC0.out.size; omega)
  clear P4 ST4 o1 o2 o3 p0 p1
  go_wp2_with fail
  have hws : IntKind.i64.wrap ((o.gone.length : Int) + 1) = (o.gone.length : Int) + 1 := wrapI (by omega) (by omega)
  have hnt : ((o.gone.length : Int) + 1).toNat = o.gone.length + 1 := by omega
  go_region_held3 (fun w' => w'.cell? ⟨ob, 3, none⟩ = some (.slice ga o.gone.length gc) ∧ w'.cell? ⟨g, o.gone.length, none⟩ = some (.int .i64 201) ∧ w'.cell? ⟨g, o.gone.length + 1, none⟩ = some (.int .i64 202))
    (first
      | exact kx6
      | go_keep)
    (first
      | (go_simp; go_at_call 26; refine (sameI_yes _ _ _ o.gone D4d.out.mark.sees D4d.out.sees hl9).mono ?_; rintro e w5 ⟨rfl, hc5⟩; have D5 := Lib.hid (D4d.out.chg0 hc5); have C5 := Lib.hid (((Chg.refl (fun _ => False) w4).drew).trans hc5 (fun _ f => f.elim)); have kx6 := And.intro D5.out.cells.2.2.2 D5.out.mark.marks; clear hc5))
  all_goals
    clear hws hnt i1 i2 i3 x3 x4 x5 kx6
    go_wp2_with fail
    go_loopg [13] (o.gone.length + 2) (fun gm iv wr => ∃ (k : Nat) (xs : List Value), k ≤ o.gone.length + 2 ∧ gm = o.gone.length + 2 - k ∧ iv = .int .i64 k ∧ wr.ownsRow 0 3 1 (.slice (some ⟨g, 0, none⟩) (o.gone.length + 2) cp) (o.gone.length + 2) xs ∧ Chg (fun x => x = g) w5 wr)
    case atStart => exact ⟨0, _, by omega, rfl, rfl, D5.out.mark.row, Chg.refl _ _⟩
    case round =>
      obtain ⟨k, xs, hk, hg, rfl, hrow, hch⟩ := hrel
      have Hg := Lib.hid hg
      have HRow := Lib.hid hrow
      have HCh := Lib.hid hch
      have hxl : xs.length = (o.gone.length + 2) * 1 := hrow.1
      clear hg hch
      by_cases hlt : k < o.gone.length + 2
      · obtain ⟨x, hx⟩ : ∃ x, xs[k]? = some x := ⟨_, List.getElem?_eq_getElem (by omega)⟩
        have cx : wr.cell? ⟨g, k, none⟩ = some x := by rw [hrow.cellAt k (by omega)]; exact hx
        have fx : wr.frozen? ⟨g, k, none⟩ = false := hrow.frozenAt k
        have hki : (k : Int) < (o.gone.length : Int) + 2 := by omega
        have hk0 : (0 : Int) ≤ (k : Int) := by omega
        have HL : Hid (k < xs.length) := Lib.hid (by omega)
        clear hx hrow hxl
        go_wp2_with fail
        go_roundg (o.gone.length + 2 - (k + 1))
        case measure => have := Hg.out; omega
        case rel => exact ⟨k + 1, xs.set k (.int .i64 7), by omega, rfl, by go_num, ownsRow_setCell HRow.out k _ HL.out, HCh.out.setCell (p := ⟨g, k, none⟩) (.inl rfl) _⟩
      · have hki : ¬ (k : Int) < (o.gone.length : Int) + 2 := by omega
        clear hrow hxl
        go_wp2_with fail
        go_ret
        have cgo : Chg (fun x => x = g) w4 wr := (C5.out.mono (fun _ f => f.elim)).trans HCh.out (fun x e => .inl e)
        exact ⟨rfl, T', T2', HP4.out.other cgo (fun k e f => NT'.out.2 (by have h : k = g := f; rw [← h]; exact e)), HST.out.chg.trans cgo (fun x e => .inr (by rw [e]; exact GN.out)), HST.out.sub⟩

set_option maxRecDepth 100000 in
set_option maxHeartbeats 8000000 in
theorem plays_4 {w : World} {T T2 : Nat → Prop} {b pb m1 m2 rb : Nat} {P : PS} (h : PairF w T b pb m1 m2 rb T2 P) (hok : P.small) (o : OpD) (ho : o.ok) (ga : Option Addr) (gc : Nat) (hs : SeesI w (.slice ga o.gone.length gc) o.gone) (hl : o.gone.length ≤ 4000) (hfar : ∀ ad, ga = some ad → o.gone ≠ [] → ad.block < w.heap.size ∧ ¬ T ad.block) (hk : o.kind = 4) :
    Calls Try.prog 11 #[.pointer (some ⟨b, 0, none⟩), opV o (.slice ga o.gone.length gc)] w (Played w T b pb m1 m2 rb (P.plays o)) := by
  have H := Lib.hid h
  have Hok := Lib.hid hok
  have HO := Lib.hid ho
  have HS := Lib.hid hs
  have Hfar := Lib.hid hfar
  have hl3 : ¬ (4000 : Int) < (o.gone.length : Int) := by omega
  have hl6 : o.gone.length ≤ 1000000 := by omega
  have hl9 : o.gone.length ≤ 9223372036854775807 := by omega
  have hop := heap_alloc_new w (opObj o (.slice ga o.gone.length gc))
  obtain ⟨w0, hw0⟩ : ∃ w0, w0 = w.alloc (opObj o (.slice ga o.gone.length gc)) := ⟨_, rfl⟩
  obtain ⟨ob, hob⟩ : ∃ ob, ob = w.heap.size := ⟨_, rfl⟩
  rw [← hw0, ← hob] at hop
  have hcw0 : Chg (fun _ => False) w w0 := by rw [hw0]; exact (Chg.refl _ w).alloc _
  have HW0 := Lib.hid hw0
  have HOB := Lib.hid hob
  have Hop := Lib.hid hop
  have HC0 := Lib.hid hcw0
  have q1 : (o.kind == 1) = false := by rw [beq_eq_false_iff_ne]; omega
  have q2 : (o.kind == 2) = false := by rw [beq_eq_false_iff_ne]; omega
  have q3 : (o.kind == 3) = false := by rw [beq_eq_false_iff_ne]; omega
  have q4 : (o.kind == 4) = true := by rw [beq_iff_eq]; omega
  have HK := Lib.hid hk
  clear hk
  clear h hok ho hs hfar hw0 hob hop hcw0
  unfold opV
  go_enter Try.func11, Try.ntmps11
  go_wp2_with fail
  change Calls Try.prog 21 _ (w.alloc (opObj o (.slice ga o.gone.length gc))) _
  rw [← HW0.out, ← HOB.out]
  refine (ints_any _ _ o.gone (HS.out.chg0 HC0.out) hl6).mono ?_
  rintro e w1 ⟨g0, cap0, rfl, hN0, hc0⟩
  have N0 := Lib.hid hN0
  have C1 := Lib.hid hc0
  clear hN0 hc0
  have SD0 : Hid (∀ g cp w2, Marked w0 w2 g cp o.gone → Chg (fun _ => False) w0 w2 → Side w0 w2 ob g cp o ga gc) := Lib.hid (fun g cp w2 hm hc => ⟨hc.get Hop.out (fun f => f), hm, (HS.out.chg0 HC0.out).chg0 hc⟩)
  go_upto_block 0 with (first
    | (at_builtin; refine app_two rfl _ _ rfl (.slice (some ⟨g0, 0, none⟩) o.gone.length cap0) o.gone rfl N0.out.1 201 202 rfl (by omega) ?_; intro g cp w2 hr1 hc1 hat1; have M2 : Hid (Marked w0 w2 g cp o.gone) := Lib.hid ⟨hr1, mark_new (N0.out.2 g0 rfl) C1.out.size hat1⟩; have C2 : Hid (Chg (fun _ => False) w0 w2) := Lib.hid (C1.out.news hc1 N0.out.2); have D2 := Lib.hid (SD0.out g cp w2 M2.out C2.out); have hk0 := D2.out.cells.1; clear hr1 hc1 hat1)
    | fail)
  have P2 := Lib.hid (H.out.chg0 (HC0.out.trans C2.out (fun _ f => f.elim)))
  have ST2 : Hid (TStep w T w2 T) := Lib.hid (TStep.of0 (HC0.out.trans C2.out (fun _ f => f.elim)))
  have hcp : o.gone.length + 2 ≤ cp := M2.out.cap
  have hnc : (o.gone.length : Int) ≤ (cp : Int) := by omega
  have hn0 : (0 : Int) ≤ (o.gone.length : Int) := by omega
  have NT : Hid (¬ T ob ∧ ¬ T g ∧ ∀ ad, ga = some ad → o.gone ≠ [] → ¬ T ad.block) := Lib.hid ⟨fun e => by have := H.out.lt _ e; have := HOB.out; omega, fun e => by have h1 := H.out.lt _ e; have h2 := M2.out.new; have h3 := HC0.out.size; omega, fun ad e hne => (Hfar.out ad e hne).2⟩
  obtain ⟨_, o1, o2, o3⟩ := D2.out.cells
  obtain ⟨p0, p1, _⟩ := P2.out.cells
  clear SD0 N0 C1 M2 hk0
  have HP : Hid (P.plays o = P) := Lib.hid (by unfold PS.plays PS.does; first | rw [if_neg (by have := HK.out; omega), if_neg (by have := HK.out; omega), if_neg (by have := HK.out; omega)])
  have OBG : Hid (¬ w2.heap.size ≤ ob ∧ ¬ w2.heap.size ≤ g) := Lib.hid ⟨by have := heap_lt D2.out.op; omega, by have := D2.out.mark.lt; omega⟩
  obtain ⟨n, hn⟩ : ∃ n, P.lists o.a o.gone = n := ⟨_, rfl⟩
  have HN := Lib.hid hn
  have hnn : (n == n) = true := beq_self_eq_true _
  clear hn
  go_wp2_with fail
  go_region_held3 (fun w' => w'.cell? ⟨b, 0, none⟩ = some (.pointer (some ⟨pb, 0, none⟩)) ∧ w'.cell? ⟨b, 1, none⟩ = some (.pointer (some ⟨rb, 0, none⟩)) ∧ w'.cell? ⟨ob, 1, none⟩ = some (.int .i64 o.a) ∧ w'.cell? ⟨ob, 3, none⟩ = some (.slice ga o.gone.length gc))
    (first
      | exact kx4
      | exact kx5
      | go_keep)
    (first
      | (go_simp; go_at_call 22; refine (lists_any _ _ _ _ _ P2.out.drew.pool Hok.out.ok o.a _ o.gone (D2.out.mark.chg0 (Chg.refl (fun _ => False) w2).drew (fun f => f)).sees hl6 HO.out.gone).mono ?_; rintro e w3 ⟨rfl, c3⟩; rw [HN.out]; have c23 : Chg (fun _ => False) w2 w3 := ((Chg.refl (fun _ => False) w2).drew).trans c3 (fun _ f => f.elim); have D3 := Lib.hid (D2.out.chg0 c23); have P3 := Lib.hid (P2.out.chg0 c23); have C23 := Lib.hid c23; have kx4 := And.intro P3.out.cells.1 (And.intro P3.out.cells.2.1 (And.intro D3.out.cells.2.1 D3.out.cells.2.2.2)); clear c3 c23)
      | (go_simp; go_at_call 34; refine (rlists_p P3.out.rf Hok.out o.a D3.out.sees hl6 HN.out).mono ?_; rintro e w4 ⟨rfl, c4⟩; have C24 := Lib.hid (C23.out.trans c4 (fun _ f => f.elim)); have D4 := Lib.hid (D3.out.chg0 c4); have P4' := Lib.hid (P3.out.chg0 c4); have kx5 := And.intro P4'.out.cells.1 (And.intro P4'.out.cells.2.1 (And.intro D4.out.cells.2.1 D4.out.cells.2.2.2)); clear c4))
  all_goals
    have P4 : PairF w4 T b pb m1 m2 rb T2 (P.plays o) := by rw [HP.out]; exact P4'.out
    have ST24 : TStep w2 T w4 T := TStep.of0 C24.out
    have ST4 := ST2.out.trans ST24
    clear kx4 kx5
  obtain ⟨T', T2', HP4, HST, ST24H⟩ : ∃ T' T2', Hid (PairF w4 T' b pb m1 m2 rb T2' (P.plays o)) ∧ Hid (TStep w T w4 T') ∧ Hid (TStep w2 T w4 T') := ⟨_, _, Lib.hid P4, Lib.hid ST4, Lib.hid ST24⟩
  clear ST24
  have D4d := Lib.hid (D4.out.chg0 (Chg.refl (fun _ => False) w4).drew)
  obtain ⟨_, _, _, x3⟩ := D4.out.cells
  obtain ⟨x4, x5⟩ := D4.out.mark.marks
  have NT' : Hid (¬ T' ob ∧ ¬ T' g) := Lib.hid ⟨fun e => (ST24H.out.sub _ e).elim NT.out.1 OBG.out.1, fun e => (ST24H.out.sub _ e).elim NT.out.2.1 OBG.out.2⟩
  have i1 : (o.gone.length : Int) < (o.gone.length : Int) + 2 := by omega
  have i2 : ((o.gone.length : Int) + 1) < (o.gone.length : Int) + 2 := by omega
  have i3 : (0 : Int) ≤ (o.gone.length : Int) + 1 := by omega
  have GN : Hid (w.heap.size ≤ g) := Lib.hid (by have h1 := D4.out.mark.new; have h2 := HC0.out.size; omega)
  clear P4 ST4 o1 o2 o3 p0 p1
  go_wp2_with fail
  have hws : IntKind.i64.wrap ((o.gone.length : Int) + 1) = (o.gone.length : Int) + 1 := wrapI (by omega) (by omega)
  have hnt : ((o.gone.length : Int) + 1).toNat = o.gone.length + 1 := by omega
  go_region_held3 (fun w' => w'.cell? ⟨ob, 3, none⟩ = some (.slice ga o.gone.length gc) ∧ w'.cell? ⟨g, o.gone.length, none⟩ = some (.int .i64 201) ∧ w'.cell? ⟨g, o.gone.length + 1, none⟩ = some (.int .i64 202))
    (first
      | exact kx6
      | go_keep)
    (first
      | (go_simp; go_at_call 26; refine (sameI_yes _ _ _ o.gone D4d.out.mark.sees D4d.out.sees hl9).mono ?_; rintro e w5 ⟨rfl, hc5⟩; have D5 := Lib.hid (D4d.out.chg0 hc5); have C5 := Lib.hid (((Chg.refl (fun _ => False) w4).drew).trans hc5 (fun _ f => f.elim)); have kx6 := And.intro D5.out.cells.2.2.2 D5.out.mark.marks; clear hc5))
  all_goals
    clear hws hnt i1 i2 i3 x3 x4 x5 kx6
    go_wp2_with fail
    go_loopg [13] (o.gone.length + 2) (fun gm iv wr => ∃ (k : Nat) (xs : List Value), k ≤ o.gone.length + 2 ∧ gm = o.gone.length + 2 - k ∧ iv = .int .i64 k ∧ wr.ownsRow 0 3 1 (.slice (some ⟨g, 0, none⟩) (o.gone.length + 2) cp) (o.gone.length + 2) xs ∧ Chg (fun x => x = g) w5 wr)
    case atStart => exact ⟨0, _, by omega, rfl, rfl, D5.out.mark.row, Chg.refl _ _⟩
    case round =>
      obtain ⟨k, xs, hk, hg, rfl, hrow, hch⟩ := hrel
      have Hg := Lib.hid hg
      have HRow := Lib.hid hrow
      have HCh := Lib.hid hch
      have hxl : xs.length = (o.gone.length + 2) * 1 := hrow.1
      clear hg hch
      by_cases hlt : k < o.gone.length + 2
      · obtain ⟨x, hx⟩ : ∃ x, xs[k]? = some x := ⟨_, List.getElem?_eq_getElem (by omega)⟩
        have cx : wr.cell? ⟨g, k, none⟩ = some x := by rw [hrow.cellAt k (by omega)]; exact hx
        have fx : wr.frozen? ⟨g, k, none⟩ = false := hrow.frozenAt k
        have hki : (k : Int) < (o.gone.length : Int) + 2 := by omega
        have hk0 : (0 : Int) ≤ (k : Int) := by omega
        have HL : Hid (k < xs.length) := Lib.hid (by omega)
        clear hx hrow hxl
        go_wp2_with fail
        go_roundg (o.gone.length + 2 - (k + 1))
        case measure => have := Hg.out; omega
        case rel => exact ⟨k + 1, xs.set k (.int .i64 7), by omega, rfl, by go_num, ownsRow_setCell HRow.out k _ HL.out, HCh.out.setCell (p := ⟨g, k, none⟩) (.inl rfl) _⟩
      · have hki : ¬ (k : Int) < (o.gone.length : Int) + 2 := by omega
        clear hrow hxl
        go_wp2_with fail
        go_ret
        have cgo : Chg (fun x => x = g) w4 wr := (C5.out.mono (fun _ f => f.elim)).trans HCh.out (fun x e => .inl e)
        exact ⟨rfl, T', T2', HP4.out.other cgo (fun k e f => NT'.out.2 (by have h : k = g := f; rw [← h]; exact e)), HST.out.chg.trans cgo (fun x e => .inr (by rw [e]; exact GN.out)), HST.out.sub⟩

set_option maxRecDepth 100000 in
set_option maxHeartbeats 8000000 in
theorem plays_5 {w : World} {T T2 : Nat → Prop} {b pb m1 m2 rb : Nat} {P : PS} (h : PairF w T b pb m1 m2 rb T2 P) (hok : P.small) (o : OpD) (ho : o.ok) (ga : Option Addr) (gc : Nat) (hs : SeesI w (.slice ga o.gone.length gc) o.gone) (hl : o.gone.length ≤ 4000) (hfar : ∀ ad, ga = some ad → o.gone ≠ [] → ad.block < w.heap.size ∧ ¬ T ad.block) (hk : o.kind = 5) :
    Calls Try.prog 11 #[.pointer (some ⟨b, 0, none⟩), opV o (.slice ga o.gone.length gc)] w (Played w T b pb m1 m2 rb (P.plays o)) := by
  have H := Lib.hid h
  have Hok := Lib.hid hok
  have HO := Lib.hid ho
  have HS := Lib.hid hs
  have Hfar := Lib.hid hfar
  have hl3 : ¬ (4000 : Int) < (o.gone.length : Int) := by omega
  have hl6 : o.gone.length ≤ 1000000 := by omega
  have hl9 : o.gone.length ≤ 9223372036854775807 := by omega
  have hop := heap_alloc_new w (opObj o (.slice ga o.gone.length gc))
  obtain ⟨w0, hw0⟩ : ∃ w0, w0 = w.alloc (opObj o (.slice ga o.gone.length gc)) := ⟨_, rfl⟩
  obtain ⟨ob, hob⟩ : ∃ ob, ob = w.heap.size := ⟨_, rfl⟩
  rw [← hw0, ← hob] at hop
  have hcw0 : Chg (fun _ => False) w w0 := by rw [hw0]; exact (Chg.refl _ w).alloc _
  have HW0 := Lib.hid hw0
  have HOB := Lib.hid hob
  have Hop := Lib.hid hop
  have HC0 := Lib.hid hcw0
  have q1 : (o.kind == 1) = false := by rw [beq_eq_false_iff_ne]; omega
  have q2 : (o.kind == 2) = false := by rw [beq_eq_false_iff_ne]; omega
  have q3 : (o.kind == 3) = false := by rw [beq_eq_false_iff_ne]; omega
  have q4 : (o.kind == 4) = false := by rw [beq_eq_false_iff_ne]; omega
  have q5 : (o.kind == 5) = true := by rw [beq_iff_eq]; omega
  have HK := Lib.hid hk
  clear hk
  clear h hok ho hs hfar hw0 hob hop hcw0
  unfold opV
  go_enter Try.func11, Try.ntmps11
  go_wp2_with fail
  change Calls Try.prog 21 _ (w.alloc (opObj o (.slice ga o.gone.length gc))) _
  rw [← HW0.out, ← HOB.out]
  refine (ints_any _ _ o.gone (HS.out.chg0 HC0.out) hl6).mono ?_
  rintro e w1 ⟨g0, cap0, rfl, hN0, hc0⟩
  have N0 := Lib.hid hN0
  have C1 := Lib.hid hc0
  clear hN0 hc0
  have SD0 : Hid (∀ g cp w2, Marked w0 w2 g cp o.gone → Chg (fun _ => False) w0 w2 → Side w0 w2 ob g cp o ga gc) := Lib.hid (fun g cp w2 hm hc => ⟨hc.get Hop.out (fun f => f), hm, (HS.out.chg0 HC0.out).chg0 hc⟩)
  go_upto_block 0 with (first
    | (at_builtin; refine app_two rfl _ _ rfl (.slice (some ⟨g0, 0, none⟩) o.gone.length cap0) o.gone rfl N0.out.1 201 202 rfl (by omega) ?_; intro g cp w2 hr1 hc1 hat1; have M2 : Hid (Marked w0 w2 g cp o.gone) := Lib.hid ⟨hr1, mark_new (N0.out.2 g0 rfl) C1.out.size hat1⟩; have C2 : Hid (Chg (fun _ => False) w0 w2) := Lib.hid (C1.out.news hc1 N0.out.2); have D2 := Lib.hid (SD0.out g cp w2 M2.out C2.out); have hk0 := D2.out.cells.1; clear hr1 hc1 hat1)
    | fail)
  have P2 := Lib.hid (H.out.chg0 (HC0.out.trans C2.out (fun _ f => f.elim)))
  have ST2 : Hid (TStep w T w2 T) := Lib.hid (TStep.of0 (HC0.out.trans C2.out (fun _ f => f.elim)))
  have hcp : o.gone.length + 2 ≤ cp := M2.out.cap
  have hnc : (o.gone.length : Int) ≤ (cp : Int) := by omega
  have hn0 : (0 : Int) ≤ (o.gone.length : Int) := by omega
  have NT : Hid (¬ T ob ∧ ¬ T g ∧ ∀ ad, ga = some ad → o.gone ≠ [] → ¬ T ad.block) := Lib.hid ⟨fun e => by have := H.out.lt _ e; have := HOB.out; omega, fun e => by have h1 := H.out.lt _ e; have h2 := M2.out.new; have h3 := HC0.out.size; omega, fun ad e hne => (Hfar.out ad e hne).2⟩
  obtain ⟨_, o1, o2, o3⟩ := D2.out.cells
  obtain ⟨p0, p1, _⟩ := P2.out.cells
  clear SD0 N0 C1 M2 hk0
  obtain ⟨zs, c, P', hC⟩ : ∃ zs c P', P.commit o.a o.gone o.b = (zs, c, P') := ⟨_, _, _, rfl⟩
  have HP : Hid (P' = P.plays o) := Lib.hid (by unfold PS.plays PS.does; rw [if_neg (by have := HK.out; omega), if_neg (by have := HK.out; omega), if_pos HK.out, hC])
  have HC := Lib.hid hC
  have hcc : (c == c) = true := beq_self_eq_true _
  have hzl : zs.length ≤ 9223372036854775807 := Nat.le_trans (commit_len Hok.out.ok (Nat.le_trans Hok.out.cap (by omega)) hC) (by omega)
  clear hC
  have OBG : Hid (¬ w2.heap.size ≤ ob ∧ ¬ w2.heap.size ≤ g) := Lib.hid ⟨by have := heap_lt D2.out.op; omega, by have := D2.out.mark.lt; omega⟩
  have FAR : Hid (∀ ad n c, (.slice (some ⟨g, 0, none⟩) o.gone.length cp : Value) = .slice (some ad) n c → o.gone ≠ [] → ad.block ≠ pb ∧ ad.block ≠ m1 ∧ ad.block < w2.drew.heap.size) := Lib.hid (fun ad n c e hne => by
    cases e
    exact ⟨fun e => NT.out.2.1 (by have h : g = pb := e; rw [h]; exact P2.out.tp), fun e => NT.out.2.1 (by have h : g = m1 := e; rw [h]; exact P2.out.t1), D2.out.mark.lt⟩)
  have FAR2 : Hid (∀ ad n c, (.slice ga o.gone.length gc : Value) = .slice (some ad) n c → o.gone ≠ [] → ad.block ≠ rb) := Lib.hid (fun ad n c e hne => by
    cases e
    exact fun f => NT.out.2.2 ad rfl hne (by rw [f]; exact P2.out.tr _ P2.out.ref.str))
  have HTm : Hid (∀ k, (k = pb ∨ k = m1) → T k) := Lib.hid (fun k e => by
    rcases e with e | e
    · rw [e]; exact P2.out.tp
    · rw [e]; exact P2.out.t1)
  have HT2m : Hid (∀ k, T2 k → ¬ (k = pb ∨ k = m1)) := Lib.hid (fun k e f => by
    rcases f with f | f
    · exact P2.out.r1 (by rw [← f]; exact e)
    · exact P2.out.r2 (by rw [← f]; exact e))
  go_wp2_with fail
  go_region_held3 (fun w' => w'.cell? ⟨b, 0, none⟩ = some (.pointer (some ⟨pb, 0, none⟩)) ∧ w'.cell? ⟨ob, 1, none⟩ = some (.int .i64 o.a) ∧ w'.cell? ⟨ob, 2, none⟩ = some (.int .i64 o.b))
    (first
      | exact kx4
      | go_keep)
    (first
      | (go_simp; go_at_call 23; refine (commit_p P2.out.drew.pool Hok.out o.a HO.out.a (D2.out.mark.chg0 (Chg.refl (fun _ => False) w2).drew (fun f => f)).sees hl6 HO.out.gone o.b HO.out.b FAR.out HC.out).mono ?_; rintro e w3 ⟨ax, cx, rfl, hN3, h3, c3⟩; have c23 : Chg (fun k => k = pb ∨ k = m1) w2 w3 := ((Chg.refl (fun k => k = pb ∨ k = m1) w2).drew).trans c3 (fun k e => .inl e); have D3 := Lib.hid (D2.out.chg c23 (fun e => NT.out.1 (HTm.out _ e)) (fun e => NT.out.2.1 (HTm.out _ e)) (fun ad e hne f => NT.out.2.2 ad e hne (HTm.out _ f))); have R3 := Lib.hid (P2.out.ref.chg c23 HT2m.out); have L3 := Lib.hid h3; have N3 := Lib.hid hN3; have C23 := Lib.hid c23; have B3 := Lib.hid (pair_cells (c23.get P2.out.blk (fun e => e.elim P2.out.n0 P2.out.n1))); have kx4 := And.intro B3.out.1 (And.intro D3.out.cells.2.1 D3.out.cells.2.2.1); clear h3 c3 c23 hN3))
  obtain ⟨d0, d1⟩ := B3.out
  obtain ⟨_, y1, y2, y3⟩ := D3.out.cells
  have S3 := Lib.hid (D3.out.sees.chg0 (Chg.refl (fun _ => False) w3).drew)
  have R3d := Lib.hid (R3.out.chg (Chg.refl (fun _ => False) w3).drew (fun _ _ f => f))
  clear o1 o2 o3 p0 p1 kx4
  go_wp2_with fail
  go_region_held3 (fun w' => w'.cell? ⟨b, 1, none⟩ = some (.pointer (some ⟨rb, 0, none⟩)) ∧ w'.cell? ⟨ob, 1, none⟩ = some (.int .i64 o.a) ∧ w'.cell? ⟨ob, 2, none⟩ = some (.int .i64 o.b) ∧ w'.cell? ⟨ob, 3, none⟩ = some (.slice ga o.gone.length gc))
    (first
      | exact kx5
      | go_keep)
    (first
      | (go_simp; go_at_call 35; refine (rcommit_p R3d.out Hok.out o.a S3.out hl6 o.b FAR2.out HC.out).mono ?_; rintro e w9 ⟨ay, cy, rfl, hS4, T2n, h4, s4⟩; rw [HP.out] at h4; have PS9 := Lib.hid (P2.out.both C23.out.drew (fun k e => e.imp id .inl) (by have h := L3.out.chg0 (Chg.refl (fun _ => False) w3).drew; rw [HP.out] at h; exact h) h4 s4); have D9 := Lib.hid ((D3.out.chg0 (Chg.refl (fun _ => False) w3).drew).chg s4.chg (fun e => NT.out.1 (P2.out.tr _ e)) (fun e => NT.out.2.1 (P2.out.tr _ e)) (fun ad e hne f => NT.out.2.2 ad e hne (P2.out.tr _ f))); have X4 := Lib.hid ((N3.out.keep (Chg.refl (fun _ => False) w3).drew (fun _ f => f.elim)).keep s4.chg (fun k e => P2.out.lt k (P2.out.tr k e))).sees; have Y4 := Lib.hid hS4; have kx5 := And.intro PS9.out.1.cells.2.1 (And.intro D9.out.cells.2.1 (And.intro D9.out.cells.2.2.1 D9.out.cells.2.2.2)); clear h4 s4 hS4))
  clear d0 d1 y1 y2 y3 kx5
  go_wp2_with fail
  refine (sameI_yes _ _ _ zs X4.out Y4.out hzl).mono ?_
  rintro e w4 ⟨rfl, hc5⟩
  have P4 := PS9.out.1.chg0 hc5
  have ST24 : TStep w2 T w4 _ := PS9.out.2.trans (TStep.of0 hc5)
  have ST4 := ST2.out.trans ST24
  have D4 := Lib.hid (D9.out.chg0 hc5)
  have o1 := hcc
  have o2 := hcc
  have o3 := hcc
  have p0 := hcc
  have p1 := hcc
  clear hc5
  obtain ⟨T', T2', HP4, HST, ST24H⟩ : ∃ T' T2', Hid (PairF w4 T' b pb m1 m2 rb T2' (P.plays o)) ∧ Hid (TStep w T w4 T') ∧ Hid (TStep w2 T w4 T') := ⟨_, _, Lib.hid P4, Lib.hid ST4, Lib.hid ST24⟩
  clear ST24
  have D4d := Lib.hid (D4.out.chg0 (Chg.refl (fun _ => False) w4).drew)
  obtain ⟨_, _, _, x3⟩ := D4.out.cells
  obtain ⟨x4, x5⟩ := D4.out.mark.marks
  have NT' : Hid (¬ T' ob ∧ ¬ T' g) := Lib.hid ⟨fun e => (ST24H.out.sub _ e).elim NT.out.1 OBG.out.1, fun e => (ST24H.out.sub _ e).elim NT.out.2.1 OBG.out.2⟩
  have i1 : (o.gone.length : Int) < (o.gone.length : Int) + 2 := by omega
  have i2 : ((o.gone.length : Int) + 1) < (o.gone.length : Int) + 2 := by omega
  have i3 : (0 : Int) ≤ (o.gone.length : Int) + 1 := by omega
  have GN : Hid (w.heap.size ≤ g) := Lib.hid (by have h1 := D4.out.mark.new; have h2 := HC0.out.size; omega)
  clear P4 ST4 o1 o2 o3 p0 p1
  go_wp2_with (go_at_call 27; refine (num_any _ _).mono ?_; rintro e w' ⟨rfl, rfl⟩)
  have hws : IntKind.i64.wrap ((o.gone.length : Int) + 1) = (o.gone.length : Int) + 1 := wrapI (by omega) (by omega)
  have hnt : ((o.gone.length : Int) + 1).toNat = o.gone.length + 1 := by omega
  go_region_held3 (fun w' => w'.cell? ⟨ob, 3, none⟩ = some (.slice ga o.gone.length gc) ∧ w'.cell? ⟨g, o.gone.length, none⟩ = some (.int .i64 201) ∧ w'.cell? ⟨g, o.gone.length + 1, none⟩ = some (.int .i64 202))
    (first
      | exact kx6
      | go_keep)
    (first
      | (go_simp; go_at_call 26; refine (sameI_yes _ _ _ o.gone D4d.out.mark.sees D4d.out.sees hl9).mono ?_; rintro e w5 ⟨rfl, hc5⟩; have D5 := Lib.hid (D4d.out.chg0 hc5); have C5 := Lib.hid (((Chg.refl (fun _ => False) w4).drew).trans hc5 (fun _ f => f.elim)); have kx6 := And.intro D5.out.cells.2.2.2 D5.out.mark.marks; clear hc5))
  all_goals
    clear hws hnt i1 i2 i3 x3 x4 x5 kx6
    go_wp2_with fail
    go_loopg [13] (o.gone.length + 2) (fun gm iv wr => ∃ (k : Nat) (xs : List Value), k ≤ o.gone.length + 2 ∧ gm = o.gone.length + 2 - k ∧ iv = .int .i64 k ∧ wr.ownsRow 0 3 1 (.slice (some ⟨g, 0, none⟩) (o.gone.length + 2) cp) (o.gone.length + 2) xs ∧ Chg (fun x => x = g) w5 wr)
    case atStart => exact ⟨0, _, by omega, rfl, rfl, D5.out.mark.row, Chg.refl _ _⟩
    case round =>
      obtain ⟨k, xs, hk, hg, rfl, hrow, hch⟩ := hrel
      have Hg := Lib.hid hg
      have HRow := Lib.hid hrow
      have HCh := Lib.hid hch
      have hxl : xs.length = (o.gone.length + 2) * 1 := hrow.1
      clear hg hch
      by_cases hlt : k < o.gone.length + 2
      · obtain ⟨x, hx⟩ : ∃ x, xs[k]? = some x := ⟨_, List.getElem?_eq_getElem (by omega)⟩
        have cx : wr.cell? ⟨g, k, none⟩ = some x := by rw [hrow.cellAt k (by omega)]; exact hx
        have fx : wr.frozen? ⟨g, k, none⟩ = false := hrow.frozenAt k
        have hki : (k : Int) < (o.gone.length : Int) + 2 := by omega
        have hk0 : (0 : Int) ≤ (k : Int) := by omega
        have HL : Hid (k < xs.length) := Lib.hid (by omega)
        clear hx hrow hxl
        go_wp2_with fail
        go_roundg (o.gone.length + 2 - (k + 1))
        case measure => have := Hg.out; omega
        case rel => exact ⟨k + 1, xs.set k (.int .i64 7), by omega, rfl, by go_num, ownsRow_setCell HRow.out k _ HL.out, HCh.out.setCell (p := ⟨g, k, none⟩) (.inl rfl) _⟩
      · have hki : ¬ (k : Int) < (o.gone.length : Int) + 2 := by omega
        clear hrow hxl
        go_wp2_with fail
        go_ret
        have cgo : Chg (fun x => x = g) w4 wr := (C5.out.mono (fun _ f => f.elim)).trans HCh.out (fun x e => .inl e)
        exact ⟨rfl, T', T2', HP4.out.other cgo (fun k e f => NT'.out.2 (by have h : k = g := f; rw [← h]; exact e)), HST.out.chg.trans cgo (fun x e => .inr (by rw [e]; exact GN.out)), HST.out.sub⟩
end Go.Proofs.Ytipclbibomemjaa
