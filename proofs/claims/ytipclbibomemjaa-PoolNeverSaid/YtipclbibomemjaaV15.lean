/- Walks: one call at both pools. -/
import Derived.Test.YtipclbibomemjaaV14
import Derived.Deep.CutBlock
import Derived.StillTailTactics
namespace Go.Proofs.Ytipclbibomemjaa
open Go Go.RowKit Go.Maps

/-- One call of a script. -/
structure OpD where
  kind : Int
  a : Int
  b : Int
  gone : List Int
  second : Bool
def opV (o : OpD) (gv : Value) : Value := .agg #[.int .i64 o.kind, .int .i64 o.a, .int .i64 o.b, gv, .bool o.second]
def opObj (o : OpD) (gv : Value) : Obj := .cells #[.int .i64 o.kind, .int .i64 o.a, .int .i64 o.b, gv, .bool o.second] 35
def PS.plays (P : PS) (o : OpD) : PS := P.does o.kind o.a o.b o.gone
structure OpD.ok (o : OpD) : Prop where
  a : (Lit.int .i64 o.a).wf = true
  b : (Lit.int .i64 o.b).wf = true
  gone : ∀ x ∈ o.gone, (Lit.int .i64 x).wf = true
def Played (w : World) (T : Nat → Prop) (b pb m1 m2 rb : Nat) (P' : PS) (e : Ending) (w' : World) : Prop :=
  e = .returned (.bool true) ∧ ∃ T' T2', PairF w' T' b pb m1 m2 rb T2' P' ∧ TStep w T w' T'
theorem TStep.of0 {w w' : World} {T : Nat → Prop} (h : Chg (fun _ => False) w w') : TStep w T w' T := ⟨h.mono (fun _ f => f.elim), fun _ e => .inl e⟩
theorem PairF.drew {w : World} {T T2 : Nat → Prop} {b pb m1 m2 rb : Nat} {P : PS} (h : PairF w T b pb m1 m2 rb T2 P) : PairF w.drew T b pb m1 m2 rb T2 P := h.chg0 (Chg.refl (fun _ => False) w).drew
/-- Memory that is not the pair's. -/
structure Side (w0 w : World) (ob g cp : Nat) (o : OpD) (ga : Option Addr) (gc : Nat) : Prop where
  op : w.heap[ob]? = some (opObj o (.slice ga o.gone.length gc))
  mark : Marked w0 w g cp o.gone
  sees : SeesI w (.slice ga o.gone.length gc) o.gone
theorem Side.chg {w0 w w' : World} {ob g cp : Nat} {o : OpD} {ga : Option Addr} {gc : Nat} {S : Nat → Prop} (h : Side w0 w ob g cp o ga gc) (hc : Chg S w w') (h0 : ¬ S ob) (h1 : ¬ S g) (h2 : ∀ ad, ga = some ad → o.gone ≠ [] → ¬ S ad.block) : Side w0 w' ob g cp o ga gc :=
  ⟨hc.get h.op h0, h.mark.chg0 hc h1, h.sees.chg hc (fun ad n c e hne => by cases e; exact h2 ad rfl hne)⟩
theorem Side.chg0 {w0 w w' : World} {ob g cp : Nat} {o : OpD} {ga : Option Addr} {gc : Nat} (h : Side w0 w ob g cp o ga gc) (hc : Chg (fun _ => False) w w') : Side w0 w' ob g cp o ga gc := h.chg hc (fun f => f) (fun f => f) (fun _ _ _ f => f)
theorem Side.cells {w0 w : World} {ob g cp : Nat} {o : OpD} {ga : Option Addr} {gc : Nat} (h : Side w0 w ob g cp o ga gc) : w.cell? ⟨ob, 0, none⟩ = some (.int .i64 o.kind) ∧ w.cell? ⟨ob, 1, none⟩ = some (.int .i64 o.a) ∧ w.cell? ⟨ob, 2, none⟩ = some (.int .i64 o.b) ∧ w.cell? ⟨ob, 3, none⟩ = some (.slice ga o.gone.length gc) := by
  have := h.op
  unfold opObj at this
  refine ⟨?_, ?_, ?_, ?_⟩ <;> simp [World.cell?, this]
theorem pair_cells {w : World} {b pb rb : Nat} (h : w.heap[b]? = some (.cells #[.pointer (some ⟨pb, 0, none⟩), .pointer (some ⟨rb, 0, none⟩)] 30)) : w.cell? ⟨b, 0, none⟩ = some (.pointer (some ⟨pb, 0, none⟩)) ∧ w.cell? ⟨b, 1, none⟩ = some (.pointer (some ⟨rb, 0, none⟩)) := ⟨by simp [World.cell?, h], by simp [World.cell?, h]⟩
theorem commit_len {P : PS} (hok : P.ok) (hcap : P.cap ≤ 1000000) {d : Int} {gone : List Int} {ver : Int} {zs : List Int} {c : Int} {P' : PS} (hC : P.commit d gone ver = (zs, c, P')) : zs.length ≤ 3000000 := by
  unfold PS.commit at hC
  split at hC
  · cases hC; simp
  split at hC
  · cases hC; simp
  · cases hC
    rename_i h1 h2
    rw [← giv_given, giv_length]
    unfold PS.wants
    unfold PS.room at h2
    have := usable_len hok
    have := hok.size
    omega
theorem commit_p {w : World} {pb m1 m2 : Nat} {P : PS} (h : PoolF w pb m1 m2 P) (hok : P.small) (d : Int) (hd : (Lit.int .i64 d).wf = true) {v : Value} {gone : List Int} (hs : SeesI w v gone) (hl : gone.length ≤ 1000000) (hwf : ∀ x ∈ gone, (Lit.int .i64 x).wf = true) (ver : Int) (hver : (Lit.int .i64 ver).wf = true)
    (hfar : ∀ ad n c, v = .slice (some ad) n c → gone ≠ [] → ad.block ≠ pb ∧ ad.block ≠ m1 ∧ ad.block < w.heap.size) {zs : List Int} {c : Int} {P' : PS} (hC : P.commit d gone ver = (zs, c, P')) :
    Calls Try.prog 23 #[.pointer (some ⟨pb, 0, none⟩), .int .i64 d, v, .int .i64 ver] w fun e w' => ∃ a cp, e = .returned (.tuple #[.slice a zs.length cp, .int .i64 c]) ∧ NewI w w' (.slice a zs.length cp) zs ∧ PoolF w' pb m1 m2 P' ∧ Chg (fun k => k = pb ∨ k = m1) w w' := by
  have hb := bounds_i64 hd
  have hcap : P.cap ≤ 1000000 := Nat.le_trans hok.cap (by omega)
  by_cases hno : P.lists d gone < 0 ∨ P.room - P.lists d gone < d
  · refine (commit_no w pb m1 m2 P h hok.ok hcap d hb.2 hb.1 v gone hs hl hwf ver hno (lists_le hok.ok d hl)).mono ?_
    rintro e w' ⟨rfl, e1, e2, hc⟩
    rw [hC] at e1 e2 ⊢
    obtain rfl : P' = P := e1
    obtain rfl : zs = [] := e2
    exact ⟨none, 0, rfl, ⟨World.ownsRow_nil _ _ _ _, fun g e => by simp [Value.ownBlock] at e⟩, h.chg0 hc, hc.mono (fun _ f => f.elim)⟩
  · refine (commit_yes w pb m1 m2 P h hok.ok hcap d v gone hs hl hwf ver hver hfar (by omega) (by omega) (lists_le hok.ok d hl)).mono ?_
    rintro e w' ⟨v', rfl, hN, hq, hc⟩
    unfold PS.commit at hC
    rw [if_neg (by omega), if_neg (by omega)] at hC
    cases hC
    obtain ⟨a, cp, rfl⟩ := hN.slice
    exact ⟨a, cp, rfl, hN, hq, hc⟩

set_option maxRecDepth 100000 in
set_option maxHeartbeats 8000000 in
theorem plays_0 {w : World} {T T2 : Nat → Prop} {b pb m1 m2 rb : Nat} {P : PS} (h : PairF w T b pb m1 m2 rb T2 P) (hok : P.small) (o : OpD) (ho : o.ok) (ga : Option Addr) (gc : Nat) (hs : SeesI w (.slice ga o.gone.length gc) o.gone) (hl : o.gone.length ≤ 4000) (hfar : ∀ ad, ga = some ad → o.gone ≠ [] → ad.block < w.heap.size ∧ ¬ T ad.block) (hk : o.kind ≠ 1 ∧ o.kind ≠ 2 ∧ o.kind ≠ 3 ∧ o.kind ≠ 4 ∧ o.kind ≠ 5) :
    Calls Try.prog 11 #[.pointer (some ⟨b, 0, none⟩), opV o (.slice ga o.gone.length gc)] w (Played w T b pb m1 m2 rb (P.plays o)) := by
  have H := Lib.hid h
  have Hok := Lib.hid hok
  have HO := Lib.hid ho
  have HS := Lib.hid hs
  have Hfar := Lib.hid hfar
  have hl3 : ¬ (4000 : Int) < (o.gone.length : Int) := by omega
  have hl6 : o.gone.length ≤ 1000000 := by omega
  have hl9 : o.gone.length ≤ 9223372036854775807 := by omega
  have hop := heap_alloc_new w (opObj o (.slice ga o.gone.length gc))
  obtain ⟨w0, hw0⟩ : ∃ w0, w0 = w.alloc (opObj o (.slice ga o.gone.length gc)) := ⟨_, rfl⟩
  obtain ⟨ob, hob⟩ : ∃ ob, ob = w.heap.size := ⟨_, rfl⟩
  rw [← hw0, ← hob] at hop
  have hcw0 : Chg (fun _ => False) w w0 := by rw [hw0]; exact (Chg.refl _ w).alloc _
  have HW0 := Lib.hid hw0
  have HOB := Lib.hid hob
  have Hop := Lib.hid hop
  have HC0 := Lib.hid hcw0
  have q1 : (o.kind == 1) = false := by rw [beq_eq_false_iff_ne]; omega
  have q2 : (o.kind == 2) = false := by rw [beq_eq_false_iff_ne]; omega
  have q3 : (o.kind == 3) = false := by rw [beq_eq_false_iff_ne]; omega
  have q4 : (o.kind == 4) = false := by rw [beq_eq_false_iff_ne]; omega
  have q5 : (o.kind == 5) = false := by rw [beq_eq_false_iff_ne]; omega
  have HK := Lib.hid hk
  clear hk
  clear h hok ho hs hfar hw0 hob hop hcw0
  unfold opV
  go_enter Try.func11, Try.ntmps11
  go_wp2_with fail
  change Calls Try.prog 21 _ (w.alloc (opObj o (.slice ga o.gone.length gc))) _
  rw [← HW0.out, ← HOB.out]
  refine (ints_any _ _ o.gone (HS.out.chg0 HC0.out) hl6).mono ?_
  rintro e w1 ⟨g0, cap0, rfl, hN0, hc0⟩
  have N0 := Lib.hid hN0
  have C1 := Lib.hid hc0
  clear hN0 hc0
  have SD0 : Hid (∀ g cp w2, Marked w0 w2 g cp o.gone → Chg (fun _ => False) w0 w2 → Side w0 w2 ob g cp o ga gc) := Lib.hid (fun g cp w2 hm hc => ⟨hc.get Hop.out (fun f => f), hm, (HS.out.chg0 HC0.out).chg0 hc⟩)
  go_upto_block 0 with (first
    | (at_builtin; refine app_two rfl _ _ rfl (.slice (some ⟨g0, 0, none⟩) o.gone.length cap0) o.gone rfl N0.out.1 201 202 rfl (by omega) ?_; intro g cp w2 hr1 hc1 hat1; have M2 : Hid (Marked w0 w2 g cp o.gone) := Lib.hid ⟨hr1, mark_new (N0.out.2 g0 rfl) C1.out.size hat1⟩; have C2 : Hid (Chg (fun _ => False) w0 w2) := Lib.hid (C1.out.news hc1 N0.out.2); have D2 := Lib.hid (SD0.out g cp w2 M2.out C2.out); have hk0 := D2.out.cells.1; clear hr1 hc1 hat1)
    | fail)
  have P2 := Lib.hid (H.out.chg0 (HC0.out.trans C2.out (fun _ f => f.elim)))
  have ST2 : Hid (TStep w T w2 T) := Lib.hid (TStep.of0 (HC0.out.trans C2.out (fun _ f => f.elim)))
  have hcp : o.gone.length + 2 ≤ cp := M2.out.cap
  have hnc : (o.gone.length : Int) ≤ (cp : Int) := by omega
  have hn0 : (0 : Int) ≤ (o.gone.length : Int) := by omega
  have NT : Hid (¬ T ob ∧ ¬ T g ∧ ∀ ad, ga = some ad → o.gone ≠ [] → ¬ T ad.block) := Lib.hid ⟨fun e => by have := H.out.lt _ e; have := HOB.out; omega, fun e => by have h1 := H.out.lt _ e; have h2 := M2.out.new; have h3 := HC0.out.size; omega, fun ad e hne => (Hfar.out ad e hne).2⟩
  obtain ⟨_, o1, o2, o3⟩ := D2.out.cells
  obtain ⟨p0, p1, _⟩ := P2.out.cells
  clear SD0 N0 C1 M2 hk0
  have HP : Hid (P.plays o = P) := Lib.hid (by unfold PS.plays PS.does; first | rw [if_neg (by have := HK.out; omega), if_neg (by have := HK.out; omega), if_neg (by have := HK.out; omega)])
  have OBG : Hid (¬ w2.heap.size ≤ ob ∧ ¬ w2.heap.size ≤ g) := Lib.hid ⟨by have := heap_lt D2.out.op; omega, by have := D2.out.mark.lt; omega⟩
  go_wp2_with fail
  obtain ⟨w4, hw4⟩ : ∃ w4, w4 = w2 := ⟨_, rfl⟩
  have P4 : PairF w4 T b pb m1 m2 rb T2 (P.plays o) := by rw [HP.out, hw4]; exact P2.out
  have ST24 : TStep w2 T w4 T := by rw [hw4]; exact TStep.refl _ _
  have D4 : Hid (Side w0 w4 ob g cp o ga gc) := Lib.hid (by rw [hw4]; exact D2.out)
  rw [← hw4]
  clear hw4
  have ST4 := ST2.out.trans ST24
  obtain ⟨T', T2', HP4, HST, ST24H⟩ : ∃ T' T2', Hid (PairF w4 T' b pb m1 m2 rb T2' (P.plays o)) ∧ Hid (TStep w T w4 T') ∧ Hid (TStep w2 T w4 T') := ⟨_, _, Lib.hid P4, Lib.hid ST4, Lib.hid ST24⟩
  clear ST24
  have D4d := Lib.hid (D4.out.chg0 (Chg.refl (fun _ => False) w4).drew)
  obtain ⟨_, _, _, x3⟩ := D4.out.cells
  obtain ⟨x4, x5⟩ := D4.out.mark.marks
  have NT' : Hid (¬ T' ob ∧ ¬ T' g) := Lib.hid ⟨fun e => (ST24H.out.sub _ e).elim NT.out.1 OBG.out.1, fun e => (ST24H.out.sub _ e).elim NT.out.2.1 OBG.out.2⟩
  have i1 : (o.gone.length : Int) < (o.gone.length : Int) + 2 := by omega
  have i2 : ((o.gone.length : Int) + 1) < (o.gone.length : Int) + 2 := by omega
  have i3 : (0 : Int) ≤ (o.gone.length : Int) + 1 := by omega
  have GN : Hid (w.heap.size ≤ g) := Lib.hid (by have h1 := D4.out.mark.new; have h2 := HC0.out.size; omega)
  clear P4 ST4 o1 o2 o3 p0 p1
  go_wp2_with fail
  have hws : IntKind.i64.wrap ((o.gone.length : Int) + 1) = (o.gone.length : Int) + 1 := wrapI (by omega) (by omega)
  have hnt : ((o.gone.length : Int) + 1).toNat = o.gone.length + 1 := by omega
  go_region_held3 (fun w' => w'.cell? ⟨ob, 3, none⟩ = some (.slice ga o.gone.length gc) ∧ w'.cell? ⟨g, o.gone.length, none⟩ = some (.int .i64 201) ∧ w'.cell? ⟨g, o.gone.length + 1, none⟩ = some (.int .i64 202))
    (first
      | exact kx6
      | go_keep)
    (first
      | (go_simp; go_at_call 26; refine (sameI_yes _ _ _ o.gone D4d.out.mark.sees D4d.out.sees hl9).mono ?_; rintro e w5 ⟨rfl, hc5⟩; have D5 := Lib.hid (D4d.out.chg0 hc5); have C5 := Lib.hid (((Chg.refl (fun _ => False) w4).drew).trans hc5 (fun _ f => f.elim)); have kx6 := And.intro D5.out.cells.2.2.2 D5.out.mark.marks; clear hc5))
  all_goals
    clear hws hnt i1 i2 i3 x3 x4 x5 kx6
    go_wp2_with fail
    go_loopg [13] (o.gone.length + 2) (fun gm iv wr => ∃ (k : Nat) (xs : List Value), k ≤ o.gone.length + 2 ∧ gm = o.gone.length + 2 - k ∧ iv = .int .i64 k ∧ wr.ownsRow 0 3 1 (.slice (some ⟨g, 0, none⟩) (o.gone.length + 2) cp) (o.gone.length + 2) xs ∧ Chg (fun x => x = g) w5 wr)
    case atStart => exact ⟨0, _, by omega, rfl, rfl, D5.out.mark.row, Chg.refl _ _⟩
    case round =>
      obtain ⟨k, xs, hk, hg, rfl, hrow, hch⟩ := hrel
      have Hg := Lib.hid hg
      have HRow := Lib.hid hrow
      have HCh := Lib.hid hch
      have hxl : xs.length = (o.gone.length + 2) * 1 := hrow.1
      clear hg hch
      by_cases hlt : k < o.gone.length + 2
      · obtain ⟨x, hx⟩ : ∃ x, xs[k]? = some x := ⟨_, List.getElem?_eq_getElem (by omega)⟩
        have cx : wr.cell? ⟨g, k, none⟩ = some x := by rw [hrow.cellAt k (by omega)]; exact hx
        have fx : wr.frozen? ⟨g, k, none⟩ = false := hrow.frozenAt k
        have hki : (k : Int) < (o.gone.length : Int) + 2 := by omega
        have hk0 : (0 : Int) ≤ (k : Int) := by omega
        have HL : Hid (k < xs.length) := Lib.hid (by omega)
        clear hx hrow hxl
        go_wp2_with fail
        go_roundg (o.gone.length + 2 - (k + 1))
        case measure => have := Hg.out; omega
        case rel => exact ⟨k + 1, xs.set k (.int .i64 7), by omega, rfl, by go_num, ownsRow_setCell HRow.out k _ HL.out, HCh.out.setCell (p := ⟨g, k, none⟩) (.inl rfl) _⟩
      · have hki : ¬ (k : Int) < (o.gone.length : Int) + 2 := by omega
        clear hrow hxl
        go_wp2_with fail
        go_ret
        have cgo : Chg (fun x => x = g) w4 wr := (C5.out.mono (fun _ f => f.elim)).trans HCh.out (fun x e => .inl e)
        exact ⟨rfl, T', T2', HP4.out.other cgo (fun k e f => NT'.out.2 (by have h : k = g := f; rw [← h]; exact e)), HST.out.chg.trans cgo (fun x e => .inr (by rw [e]; exact GN.out)), HST.out.sub⟩

set_option maxRecDepth 100000 in
set_option maxHeartbeats 8000000 in
theorem plays_1 {w : World} {T T2 : Nat → Prop} {b pb m1 m2 rb : Nat} {P : PS} (h : PairF w T b pb m1 m2 rb T2 P) (hok : P.small) (o : OpD) (ho : o.ok) (ga : Option Addr) (gc : Nat) (hs : SeesI w (.slice ga o.gone.length gc) o.gone) (hl : o.gone.length ≤ 4000) (hfar : ∀ ad, ga = some ad → o.gone ≠ [] → ad.block < w.heap.size ∧ ¬ T ad.block) (hk : o.kind = 1) :
    Calls Try.prog 11 #[.pointer (some ⟨b, 0, none⟩), opV o (.slice ga o.gone.length gc)] w (Played w T b pb m1 m2 rb (P.plays o)) := by
  have H := Lib.hid h
  have Hok := Lib.hid hok
  have HO := Lib.hid ho
  have HS := Lib.hid hs
  have Hfar := Lib.hid hfar
  have hl3 : ¬ (4000 : Int) < (o.gone.length : Int) := by omega
  have hl6 : o.gone.length ≤ 1000000 := by omega
  have hl9 : o.gone.length ≤ 9223372036854775807 := by omega
  have hop := heap_alloc_new w (opObj o (.slice ga o.gone.length gc))
  obtain ⟨w0, hw0⟩ : ∃ w0, w0 = w.alloc (opObj o (.slice ga o.gone.length gc)) := ⟨_, rfl⟩
  obtain ⟨ob, hob⟩ : ∃ ob, ob = w.heap.size := ⟨_, rfl⟩
  rw [← hw0, ← hob] at hop
  have hcw0 : Chg (fun _ => False) w w0 := by rw [hw0]; exact (Chg.refl _ w).alloc _
  have HW0 := Lib.hid hw0
  have HOB := Lib.hid hob
  have Hop := Lib.hid hop
  have HC0 := Lib.hid hcw0
  have q1 : (o.kind == 1) = true := by rw [beq_iff_eq]; omega
  have HK := Lib.hid hk
  clear hk
  clear h hok ho hs hfar hw0 hob hop hcw0
  unfold opV
  go_enter Try.func11, Try.ntmps11
  go_wp2_with fail
  change Calls Try.prog 21 _ (w.alloc (opObj o (.slice ga o.gone.length gc))) _
  rw [← HW0.out, ← HOB.out]
  refine (ints_any _ _ o.gone (HS.out.chg0 HC0.out) hl6).mono ?_
  rintro e w1 ⟨g0, cap0, rfl, hN0, hc0⟩
  have N0 := Lib.hid hN0
  have C1 := Lib.hid hc0
  clear hN0 hc0
  have SD0 : Hid (∀ g cp w2, Marked w0 w2 g cp o.gone → Chg (fun _ => False) w0 w2 → Side w0 w2 ob g cp o ga gc) := Lib.hid (fun g cp w2 hm hc => ⟨hc.get Hop.out (fun f => f), hm, (HS.out.chg0 HC0.out).chg0 hc⟩)
  go_upto_block 0 with (first
    | (at_builtin; refine app_two rfl _ _ rfl (.slice (some ⟨g0, 0, none⟩) o.gone.length cap0) o.gone rfl N0.out.1 201 202 rfl (by omega) ?_; intro g cp w2 hr1 hc1 hat1; have M2 : Hid (Marked w0 w2 g cp o.gone) := Lib.hid ⟨hr1, mark_new (N0.out.2 g0 rfl) C1.out.size hat1⟩; have C2 : Hid (Chg (fun _ => False) w0 w2) := Lib.hid (C1.out.news hc1 N0.out.2); have D2 := Lib.hid (SD0.out g cp w2 M2.out C2.out); have hk0 := D2.out.cells.1; clear hr1 hc1 hat1)
    | fail)
  have P2 := Lib.hid (H.out.chg0 (HC0.out.trans C2.out (fun _ f => f.elim)))
  have ST2 : Hid (TStep w T w2 T) := Lib.hid (TStep.of0 (HC0.out.trans C2.out (fun _ f => f.elim)))
  have hcp : o.gone.length + 2 ≤ cp := M2.out.cap
  have hnc : (o.gone.length : Int) ≤ (cp : Int) := by omega
  have hn0 : (0 : Int) ≤ (o.gone.length : Int) := by omega
  have NT : Hid (¬ T ob ∧ ¬ T g ∧ ∀ ad, ga = some ad → o.gone ≠ [] → ¬ T ad.block) := Lib.hid ⟨fun e => by have := H.out.lt _ e; have := HOB.out; omega, fun e => by have h1 := H.out.lt _ e; have h2 := M2.out.new; have h3 := HC0.out.size; omega, fun ad e hne => (Hfar.out ad e hne).2⟩
  obtain ⟨_, o1, o2, o3⟩ := D2.out.cells
  obtain ⟨p0, p1, _⟩ := P2.out.cells
  clear SD0 N0 C1 M2 hk0
  have HP : Hid ({ P with pins := P.pins ++ [o.a], wr := P.wr + 1 } = P.plays o) := Lib.hid (by unfold PS.plays PS.does; rw [if_pos HK.out])
  have OBG : Hid (¬ w2.heap.size ≤ ob ∧ ¬ w2.heap.size ≤ g) := Lib.hid ⟨by have := heap_lt D2.out.op; omega, by have := D2.out.mark.lt; omega⟩
  go_wp2_with fail
  go_still_tail 6, (by kernel_rfl)
  change wpList _ _ _ _ _ w2.drew
  go_wp2_with fail
  refine (pin_any _ _ _ _ _ P2.out.drew.pool Hok.out.wr Hok.out.pins o.a HO.out.a).mono ?_
  rintro e w3 ⟨rfl, h3, c3⟩
  rw [HP.out] at h3
  have c23 : Chg (fun k => k = m2) w2 w3 := ((Chg.refl (fun k => k = m2) w2).drew).trans c3 (fun k e => .inl e)
  have D3 := Lib.hid (D2.out.chg c23 (fun e => NT.out.1 (by rw [e]; exact P2.out.t2)) (fun e => NT.out.2.1 (by rw [e]; exact P2.out.t2)) (fun ad e hne f => NT.out.2.2 ad e hne (by rw [f]; exact P2.out.t2)))
  have R3 := Lib.hid ((P2.out.ref.chg c23 (fun k e f => P2.out.r3 (by have h : k = m2 := f; rw [← h]; exact e))).chg (Chg.refl (fun _ => False) w3).drew (fun _ _ f => f))
  have L3 := Lib.hid (h3.chg0 (Chg.refl (fun _ => False) w3).drew)
  have C23 := Lib.hid c23.drew
  obtain ⟨d0, d1⟩ := pair_cells (c23.get P2.out.blk (fun e => P2.out.n2 e))
  obtain ⟨_, y1, _, _⟩ := D3.out.cells
  clear h3 c3 c23 o1 o2 o3 p0 p1
  go_wp2_with fail
  have e0 : w3.drew.cell? ⟨b, 1, none⟩ = some (.pointer (some ⟨rb, 0, none⟩)) := d1
  have e1 : w3.drew.cell? ⟨ob, 1, none⟩ = some (.int .i64 o.a) := y1
  go_still_tail 6, (by kernel_rfl)
  change wpList _ _ _ _ _ w3.drew
  go_wp2_with fail
  refine (rpin_p R3.out Hok.out o.a HP.out).mono ?_
  rintro e w4 ⟨rfl, T2n, h4, s4⟩
  obtain ⟨P4, ST24⟩ := P2.out.both C23.out (fun k e => .inr (.inr e)) L3.out h4 s4
  have ST4 := ST2.out.trans ST24
  have D4 := Lib.hid ((D3.out.chg0 (Chg.refl (fun _ => False) w3).drew).chg s4.chg (fun e => NT.out.1 (P2.out.tr _ e)) (fun e => NT.out.2.1 (P2.out.tr _ e)) (fun ad e hne f => NT.out.2.2 ad e hne (P2.out.tr _ f)))
  have o1 := y1
  have o2 := y1
  have o3 := y1
  have p0 := d0
  have p1 := d1
  clear h4 s4 d0 d1 y1 e0 e1
  obtain ⟨T', T2', HP4, HST, ST24H⟩ : ∃ T' T2', Hid (PairF w4 T' b pb m1 m2 rb T2' (P.plays o)) ∧ Hid (TStep w T w4 T') ∧ Hid (TStep w2 T w4 T') := ⟨_, _, Lib.hid P4, Lib.hid ST4, Lib.hid ST24⟩
  clear ST24
  have D4d := Lib.hid (D4.out.chg0 (Chg.refl (fun _ => False) w4).drew)
  obtain ⟨_, _, _, x3⟩ := D4.out.cells
  obtain ⟨x4, x5⟩ := D4.out.mark.marks
  have NT' : Hid (¬ T' ob ∧ ¬ T' g) := Lib.hid ⟨fun e => (ST24H.out.sub _ e).elim NT.out.1 OBG.out.1, fun e => (ST24H.out.sub _ e).elim NT.out.2.1 OBG.out.2⟩
  have i1 : (o.gone.length : Int) < (o.gone.length : Int) + 2 := by omega
  have i2 : ((o.gone.length : Int) + 1) < (o.gone.length : Int) + 2 := by omega
  have i3 : (0 : Int) ≤ (o.gone.length : Int) + 1 := by omega
  have GN : Hid (w.heap.size ≤ g) := Lib.hid (by have h1 := D4.out.mark.new; have h2 := HC0.out.size; omega)
  clear P4 ST4 o1 o2 o3 p0 p1
  go_wp2_with fail
  have hws : IntKind.i64.wrap ((o.gone.length : Int) + 1) = (o.gone.length : Int) + 1 := wrapI (by omega) (by omega)
  have hnt : ((o.gone.length : Int) + 1).toNat = o.gone.length + 1 := by omega
  go_region_held3 (fun w' => w'.cell? ⟨ob, 3, none⟩ = some (.slice ga o.gone.length gc) ∧ w'.cell? ⟨g, o.gone.length, none⟩ = some (.int .i64 201) ∧ w'.cell? ⟨g, o.gone.length + 1, none⟩ = some (.int .i64 202))
    (first
      | exact kx6
      | go_keep)
    (first
      | (go_simp; go_at_call 26; refine (sameI_yes _ _ _ o.gone D4d.out.mark.sees D4d.out.sees hl9).mono ?_; rintro e w5 ⟨rfl, hc5⟩; have D5 := Lib.hid (D4d.out.chg0 hc5); have C5 := Lib.hid (((Chg.refl (fun _ => False) w4).drew).trans hc5 (fun _ f => f.elim)); have kx6 := And.intro D5.out.cells.2.2.2 D5.out.mark.marks; clear hc5))
  all_goals
    clear hws hnt i1 i2 i3 x3 x4 x5 kx6
    go_wp2_with fail
    go_loopg [13] (o.gone.length + 2) (fun gm iv wr => ∃ (k : Nat) (xs : List Value), k ≤ o.gone.length + 2 ∧ gm = o.gone.length + 2 - k ∧ iv = .int .i64 k ∧ wr.ownsRow 0 3 1 (.slice (some ⟨g, 0, none⟩) (o.gone.length + 2) cp) (o.gone.length + 2) xs ∧ Chg (fun x => x = g) w5 wr)
    case atStart => exact ⟨0, _, by omega, rfl, rfl, D5.out.mark.row, Chg.refl _ _⟩
    case round =>
      obtain ⟨k, xs, hk, hg, rfl, hrow, hch⟩ := hrel
      have Hg := Lib.hid hg
      have HRow := Lib.hid hrow
      have HCh := Lib.hid hch
      have hxl : xs.length = (o.gone.length + 2) * 1 := hrow.1
      clear hg hch
      by_cases hlt : k < o.gone.length + 2
      · obtain ⟨x, hx⟩ : ∃ x, xs[k]? = some x := ⟨_, List.getElem?_eq_getElem (by omega)⟩
        have cx : wr.cell? ⟨g, k, none⟩ = some x := by rw [hrow.cellAt k (by omega)]; exact hx
        have fx : wr.frozen? ⟨g, k, none⟩ = false := hrow.frozenAt k
        have hki : (k : Int) < (o.gone.length : Int) + 2 := by omega
        have hk0 : (0 : Int) ≤ (k : Int) := by omega
        have HL : Hid (k < xs.length) := Lib.hid (by omega)
        clear hx hrow hxl
        go_wp2_with fail
        go_roundg (o.gone.length + 2 - (k + 1))
        case measure => have := Hg.out; omega
        case rel => exact ⟨k + 1, xs.set k (.int .i64 7), by omega, rfl, by go_num, ownsRow_setCell HRow.out k _ HL.out, HCh.out.setCell (p := ⟨g, k, none⟩) (.inl rfl) _⟩
      · have hki : ¬ (k : Int) < (o.gone.length : Int) + 2 := by omega
        clear hrow hxl
        go_wp2_with fail
        go_ret
        have cgo : Chg (fun x => x = g) w4 wr := (C5.out.mono (fun _ f => f.elim)).trans HCh.out (fun x e => .inl e)
        exact ⟨rfl, T', T2', HP4.out.other cgo (fun k e f => NT'.out.2 (by have h : k = g := f; rw [← h]; exact e)), HST.out.chg.trans cgo (fun x e => .inr (by rw [e]; exact GN.out)), HST.out.sub⟩

set_option maxRecDepth 100000 in
set_option maxHeartbeats 8000000 in
theorem plays_2 {w : World} {T T2 : Nat → Prop} {b pb m1 m2 rb : Nat} {P : PS} (h : PairF w T b pb m1 m2 rb T2 P) (hok : P.small) (o : OpD) (ho : o.ok) (ga : Option Addr) (gc : Nat) (hs : SeesI w (.slice ga o.gone.length gc) o.gone) (hl : o.gone.length ≤ 4000) (hfar : ∀ ad, ga = some ad → o.gone ≠ [] → ad.block < w.heap.size ∧ ¬ T ad.block) (hk : o.kind = 2) :
    Calls Try.prog 11 #[.pointer (some ⟨b, 0, none⟩), opV o (.slice ga o.gone.length gc)] w (Played w T b pb m1 m2 rb (P.plays o)) := by
  have H := Lib.hid h
  have Hok := Lib.hid hok
  have HO := Lib.hid ho
  have HS := Lib.hid hs
  have Hfar := Lib.hid hfar
  have hl3 : ¬ (4000 : Int) < (o.gone.length : Int) := by omega
  have hl6 : o.gone.length ≤ 1000000 := by omega
  have hl9 : o.gone.length ≤ 9223372036854775807 := by omega
  have hop := heap_alloc_new w (opObj o (.slice ga o.gone.length gc))
  obtain ⟨w0, hw0⟩ : ∃ w0, w0 = w.alloc (opObj o (.slice ga o.gone.length gc)) := ⟨_, rfl⟩
  obtain ⟨ob, hob⟩ : ∃ ob, ob = w.heap.size := ⟨_, rfl⟩
  rw [← hw0, ← hob] at hop
  have hcw0 : Chg (fun _ => False) w w0 := by rw [hw0]; exact (Chg.refl _ w).alloc _
  have HW0 := Lib.hid hw0
  have HOB := Lib.hid hob
  have Hop := Lib.hid hop
  have HC0 := Lib.hid hcw0
  have q1 : (o.kind == 1) = false := by rw [beq_eq_false_iff_ne]; omega
  have q2 : (o.kind == 2) = true := by rw [beq_iff_eq]; omega
  have HK := Lib.hid hk
  clear hk
  clear h hok ho hs hfar hw0 hob hop hcw0
  unfold opV
  go_enter Try.func11, Try.ntmps11
  go_wp2_with fail
  change Calls Try.prog 21 _ (w.alloc (opObj o (.slice ga o.gone.length gc))) _
  rw [← HW0.out, ← HOB.out]
  refine (ints_any _ _ o.gone (HS.out.chg0 HC0.out) hl6).mono ?_
  rintro e w1 ⟨g0, cap0, rfl, hN0, hc0⟩
  have N0 := Lib.hid hN0
  have C1 := Lib.hid hc0
  clear hN0 hc0
  have SD0 : Hid (∀ g cp w2, Marked w0 w2 g cp o.gone → Chg (fun _ => False) w0 w2 → Side w0 w2 ob g cp o ga gc) := Lib.hid (fun g cp w2 hm hc => ⟨hc.get Hop.out (fun f => f), hm, (HS.out.chg0 HC0.out).chg0 hc⟩)
  go_upto_block 0 with (first
    | (at_builtin; refine app_two rfl _ _ rfl (.slice (some ⟨g0, 0, none⟩) o.gone.length cap0) o.gone rfl N0.out.1 201 202 rfl (by omega) ?_; intro g cp w2 hr1 hc1 hat1; have M2 : Hid (Marked w0 w2 g cp o.gone) := Lib.hid ⟨hr1, mark_new (N0.out.2 g0 rfl) C1.out.size hat1⟩; have C2 : Hid (Chg (fun _ => False) w0 w2) := Lib.hid (C1.out.news hc1 N0.out.2); have D2 := Lib.hid (SD0.out g cp w2 M2.out C2.out); have hk0 := D2.out.cells.1; clear hr1 hc1 hat1)
    | fail)
  have P2 := Lib.hid (H.out.chg0 (HC0.out.trans C2.out (fun _ f => f.elim)))
  have ST2 : Hid (TStep w T w2 T) := Lib.hid (TStep.of0 (HC0.out.trans C2.out (fun _ f => f.elim)))
  have hcp : o.gone.length + 2 ≤ cp := M2.out.cap
  have hnc : (o.gone.length : Int) ≤ (cp : Int) := by omega
  have hn0 : (0 : Int) ≤ (o.gone.length : Int) := by omega
  have NT : Hid (¬ T ob ∧ ¬ T g ∧ ∀ ad, ga = some ad → o.gone ≠ [] → ¬ T ad.block) := Lib.hid ⟨fun e => by have := H.out.lt _ e; have := HOB.out; omega, fun e => by have h1 := H.out.lt _ e; have h2 := M2.out.new; have h3 := HC0.out.size; omega, fun ad e hne => (Hfar.out ad e hne).2⟩
  obtain ⟨_, o1, o2, o3⟩ := D2.out.cells
  obtain ⟨p0, p1, _⟩ := P2.out.cells
  clear SD0 N0 C1 M2 hk0
  have HP : Hid ({ P with pins := P.pins.erase o.a, wr := P.wr + 1 } = P.plays o) := Lib.hid (by unfold PS.plays PS.does; rw [if_neg (by have := HK.out; omega), if_pos HK.out])
  obtain ⟨c, hc⟩ : ∃ c, decide (o.a ∈ P.pins) = c := ⟨_, rfl⟩
  have HCd := Lib.hid hc
  have hcc : (c == c) = true := beq_self_eq_true _
  clear hc
  have OBG : Hid (¬ w2.heap.size ≤ ob ∧ ¬ w2.heap.size ≤ g) := Lib.hid ⟨by have := heap_lt D2.out.op; omega, by have := D2.out.mark.lt; omega⟩
  go_wp2_with fail
  go_region_held3 (fun w' => w'.cell? ⟨b, 0, none⟩ = some (.pointer (some ⟨pb, 0, none⟩)) ∧ w'.cell? ⟨b, 1, none⟩ = some (.pointer (some ⟨rb, 0, none⟩)) ∧ w'.cell? ⟨ob, 1, none⟩ = some (.int .i64 o.a))
    (first
      | exact kx4
      | exact kx5
      | go_keep)
    (first
      | (go_simp; go_at_call 25; refine (unpin_any _ _ _ _ _ P2.out.drew.pool Hok.out.wr Hok.out.pins o.a HO.out.a).mono ?_; rintro e w3 ⟨rfl, h3, c3⟩; rw [HP.out] at h3; rw [HCd.out]; have c23 : Chg (fun k => k = m2) w2 w3 := ((Chg.refl (fun k => k = m2) w2).drew).trans c3 (fun k e => .inl e); have D3 := Lib.hid (D2.out.chg c23 (fun e => NT.out.1 (by rw [e]; exact P2.out.t2)) (fun e => NT.out.2.1 (by rw [e]; exact P2.out.t2)) (fun ad e hne f => NT.out.2.2 ad e hne (by rw [f]; exact P2.out.t2))); have R3 := Lib.hid (P2.out.ref.chg c23 (fun k e f => P2.out.r3 (by have h : k = m2 := f; rw [← h]; exact e))); have L3 := Lib.hid h3; have C23 := Lib.hid c23; have kx4 := And.intro (pair_cells (c23.get P2.out.blk (fun e => P2.out.n2 e))).1 (And.intro (pair_cells (c23.get P2.out.blk (fun e => P2.out.n2 e))).2 D3.out.cells.2.1); clear h3 c3 c23)
      | (go_simp; go_at_call 33; refine (runpin_p R3.out Hok.out o.a HP.out HCd.out).mono ?_; rintro e w4 ⟨rfl, T2n, h4, s4⟩; have PS4 := Lib.hid (P2.out.both C23.out (fun k e => .inr (.inr e)) L3.out h4 s4); have D4 := Lib.hid (D3.out.chg s4.chg (fun e => NT.out.1 (P2.out.tr _ e)) (fun e => NT.out.2.1 (P2.out.tr _ e)) (fun ad e hne f => NT.out.2.2 ad e hne (P2.out.tr _ f))); have kx5 := And.intro PS4.out.1.cells.1 (And.intro PS4.out.1.cells.2.1 D4.out.cells.2.1); clear h4 s4))
  all_goals
    have P4 := PS4.out.1
    have ST24 := PS4.out.2
    have ST4 := ST2.out.trans ST24
    clear kx4 kx5
  obtain ⟨T', T2', HP4, HST, ST24H⟩ : ∃ T' T2', Hid (PairF w4 T' b pb m1 m2 rb T2' (P.plays o)) ∧ Hid (TStep w T w4 T') ∧ Hid (TStep w2 T w4 T') := ⟨_, _, Lib.hid P4, Lib.hid ST4, Lib.hid ST24⟩
  clear ST24
  have D4d := Lib.hid (D4.out.chg0 (Chg.refl (fun _ => False) w4).drew)
  obtain ⟨_, _, _, x3⟩ := D4.out.cells
  obtain ⟨x4, x5⟩ := D4.out.mark.marks
  have NT' : Hid (¬ T' ob ∧ ¬ T' g) := Lib.hid ⟨fun e => (ST24H.out.sub _ e).elim NT.out.1 OBG.out.1, fun e => (ST24H.out.sub _ e).elim NT.out.2.1 OBG.out.2⟩
  have i1 : (o.gone.length : Int) < (o.gone.length : Int) + 2 := by omega
  have i2 : ((o.gone.length : Int) + 1) < (o.gone.length : Int) + 2 := by omega
  have i3 : (0 : Int) ≤ (o.gone.length : Int) + 1 := by omega
  have GN : Hid (w.heap.size ≤ g) := Lib.hid (by have h1 := D4.out.mark.new; have h2 := HC0.out.size; omega)
  clear P4 ST4 o1 o2 o3 p0 p1
  go_wp2_with fail
  have hws : IntKind.i64.wrap ((o.gone.length : Int) + 1) = (o.gone.length : Int) + 1 := wrapI (by omega) (by omega)
  have hnt : ((o.gone.length : Int) + 1).toNat = o.gone.length + 1 := by omega
  go_region_held3 (fun w' => w'.cell? ⟨ob, 3, none⟩ = some (.slice ga o.gone.length gc) ∧ w'.cell? ⟨g, o.gone.length, none⟩ = some (.int .i64 201) ∧ w'.cell? ⟨g, o.gone.length + 1, none⟩ = some (.int .i64 202))
    (first
      | exact kx6
      | go_keep)
    (first
      | (go_simp; go_at_call 26; refine (sameI_yes _ _ _ o.gone D4d.out.mark.sees D4d.out.sees hl9).mono ?_; rintro e w5 ⟨rfl, hc5⟩; have D5 := Lib.hid (D4d.out.chg0 hc5); have C5 := Lib.hid (((Chg.refl (fun _ => False) w4).drew).trans hc5 (fun _ f => f.elim)); have kx6 := And.intro D5.out.cells.2.2.2 D5.out.mark.marks; clear hc5))
  all_goals
    clear hws hnt i1 i2 i3 x3 x4 x5 kx6
    go_wp2_with fail
    go_loopg [13] (o.gone.length + 2) (fun gm iv wr => ∃ (k : Nat) (xs : List Value), k ≤ o.gone.length + 2 ∧ gm = o.gone.length + 2 - k ∧ iv = .int .i64 k ∧ wr.ownsRow 0 3 1 (.slice (some ⟨g, 0, none⟩) (o.gone.length + 2) cp) (o.gone.length + 2) xs ∧ Chg (fun x => x = g) w5 wr)
    case atStart => exact ⟨0, _, by omega, rfl, rfl, D5.out.mark.row, Chg.refl _ _⟩
    case round =>
      obtain ⟨k, xs, hk, hg, rfl, hrow, hch⟩ := hrel
      have Hg := Lib.hid hg
      have HRow := Lib.hid hrow
      have HCh := Lib.hid hch
      have hxl : xs.length = (o.gone.length + 2) * 1 := hrow.1
      clear hg hch
      by_cases hlt : k < o.gone.length + 2
      · obtain ⟨x, hx⟩ : ∃ x, xs[k]? = some x := ⟨_, List.getElem?_eq_getElem (by omega)⟩
        have cx : wr.cell? ⟨g, k, none⟩ = some x := by rw [hrow.cellAt k (by omega)]; exact hx
        have fx : wr.frozen? ⟨g, k, none⟩ = false := hrow.frozenAt k
        have hki : (k : Int) < (o.gone.length : Int) + 2 := by omega
        have hk0 : (0 : Int) ≤ (k : Int) := by omega
        have HL : Hid (k < xs.length) := Lib.hid (by omega)
        clear hx hrow hxl
        go_wp2_with fail
        go_roundg (o.gone.length + 2 - (k + 1))
        case measure => have := Hg.out; omega
        case rel => exact ⟨k + 1, xs.set k (.int .i64 7), by omega, rfl, by go_num, ownsRow_setCell HRow.out k _ HL.out, HCh.out.setCell (p := ⟨g, k, none⟩) (.inl rfl) _⟩
      · have hki : ¬ (k : Int) < (o.gone.length : Int) + 2 := by omega
        clear hrow hxl
        go_wp2_with fail
        go_ret
        have cgo : Chg (fun x => x = g) w4 wr := (C5.out.mono (fun _ f => f.elim)).trans HCh.out (fun x e => .inl e)
        exact ⟨rfl, T', T2', HP4.out.other cgo (fun k e f => NT'.out.2 (by have h : k = g := f; rw [← h]; exact e)), HST.out.chg.trans cgo (fun x e => .inr (by rw [e]; exact GN.out)), HST.out.sub⟩
end Go.Proofs.Ytipclbibomemjaa
