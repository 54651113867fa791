/- Walks: Commit, done. -/
import Derived.Test.YtipclbibomemjaaGreatDoorU8
namespace Go.Proofs.YtipclbibomemjaaGreatDoor
open Go Go.RowKit Go.Maps

theorem riseK_facts {count : Int} {last : Int} {zs : List Int} (h : riseK count last zs = true) : zs.Pairwise (fun a b => a < b) ∧ ∀ x ∈ zs, last < x ∧ x < count := by
  induction zs generalizing last with
  | nil => exact ⟨List.Pairwise.nil, fun x hx => by simp at hx⟩
  | cons y zs ih =>
    unfold riseK at h
    by_cases h1 : y ≤ last ∨ count ≤ y
    · rw [if_pos h1] at h; cases h
    · rw [if_neg h1] at h
      obtain ⟨h2, h3⟩ := ih h
      refine ⟨List.pairwise_cons.2 ⟨fun x hx => (h3 x hx).1, h2⟩, fun x hx => ?_⟩
      rcases List.mem_cons.1 hx with rfl | e
      · omega
      · have := h3 x e; omega
theorem lists_facts {P : PS} {d : Int} {gone : List Int} (h : 0 ≤ P.lists d gone) : 0 ≤ d ∧ riseK P.size 1 gone = true ∧ gone.any P.has = false := by
  unfold PS.lists at h
  split at h
  · omega
  rename_i h1
  split at h
  · omega
  rename_i h2
  split at h
  · omega
  rename_i h3
  exact ⟨by omega, by simpa using h2, by simpa using h3⟩
theorem stays_pair {P : PS} (hok : P.ok) (out : List Int) : (stays P.free out).Pairwise fun p q => p.1 ≠ q.1 := (hok.rise.filter _).imp (fun h => by omega)
theorem old_at {P : PS} (hok : P.ok) {k n : Nat} {x : Int} (h : ((nums P.usable).take n)[k]? = some x) : ∃ m : Nat, x = m ∧ m ≤ P.size := by
  have hm := List.mem_of_mem_take (List.mem_of_getElem? h)
  unfold nums at hm
  obtain ⟨q, hq, rfl⟩ := List.mem_map.1 hm
  have := hok.hi q (List.mem_filter.1 hq).1
  exact ⟨q.1, rfl, by omega⟩

theorem PoolF.perm {w : World} {pb m1 m2 : Nat} {P : PS} (h : PoolF w pb m1 m2 P) {L : List (Nat × Int)} (hp : P.free.Perm L) : PoolF w pb m1 m2 { P with free := L } := by
  obtain ⟨M, a, b⟩ := h.fr
  refine ⟨h.blk, ⟨M, ?_, b.perm hp⟩, h.pn, h.ne, h.n1, h.n2⟩
  show w.ownsMap Tryz.prog 3 RI m1 L.length M
  rw [← hp.length_eq]; exact a
theorem row_at {w : World} {ad : Addr} {n c : Nat} {xs : List Value} {j : Nat} {u : Value} (h : w.ownsRow 0 3 1 (.slice (some ad) n c) n xs) (hu : xs[j]? = some u) : w.cell? (ad.add j) = some u := by
  rcases h.2 with ⟨e, _⟩ | ⟨g, cap, cur, e, _⟩
  · cases e
  · cases e
    have hj : j < n * 1 := by have := (List.getElem?_eq_some_iff.1 hu).1; have := h.1; omega
    rw [addr_add, Nat.zero_add, h.cellAt j hj, hu]

set_option maxRecDepth 100000 in
set_option maxHeartbeats 16000000 in
theorem commit_yes (w : World) (pb m1 m2 : Nat) (P : PS) (h : PoolF w pb m1 m2 P) (hok : P.ok) (hcap : P.cap ≤ 1000000) (d : Int) (v : Value) (gone : List Int) (hs : SeesI w v gone) (hl : gone.length ≤ 1000000) (hwf : ∀ x ∈ gone, (Lit.int .i64 x).wf = true) (ver : Int) (hver : (Lit.int .i64 ver).wf = true)
    (hfar : ∀ ad n c, v = .slice (some ad) n c → gone ≠ [] → ad.block ≠ pb ∧ ad.block ≠ m1 ∧ ad.block < w.heap.size)
    (hf0 : 0 ≤ P.lists d gone) (hf1 : d ≤ P.room - P.lists d gone) (hf2 : P.lists d gone ≤ 2000000) :
    Calls Tryz.prog 11 #[.pointer (some ⟨pb, 0, none⟩), .int .i64 d, v, .int .i64 ver] w fun e w' => ∃ v', e = .returned (.tuple #[v', .int .i64 0]) ∧ NewI w w' v' (P.given d gone) ∧ PoolF w' pb m1 m2 (P.after d gone ver) ∧ Chg (fun k => k = pb ∨ k = m1) w w' := by
  have H := Lib.hid h
  have HS := Lib.hid hs
  have Hok := Lib.hid hok
  have HWF := Lib.hid hwf
  have HFar := Lib.hid hfar
  have hlt := h.lt
  obtain ⟨hd0, hrise, hany⟩ := lists_facts hf0
  have HRise := Lib.hid hrise
  have HAny := Lib.hid hany
  obtain ⟨f, hfe⟩ : ∃ f : Nat, P.lists d gone = f := ⟨(P.lists d gone).toNat, by omega⟩
  obtain ⟨r, hre⟩ : ∃ r, P.room = r := ⟨_, rfl⟩
  obtain ⟨u, hue⟩ : ∃ u, P.usable.length = u := ⟨_, rfl⟩
  have hul := usable_len hok
  have hsz := hok.size
  have hrb : r = (u : Int) + P.cap - P.size := by rw [← hre, ← hue]; rfl
  rw [hfe, hre] at hf1
  rw [hfe] at hf2
  rw [hue] at hul
  obtain ⟨D, rfl⟩ : ∃ D : Nat, d = D := ⟨d.toNat, by omega⟩
  obtain ⟨n, hn⟩ : ∃ n, n = D + f := ⟨_, rfl⟩
  have HW : Hid (P.wants D gone = n) := Lib.hid (by unfold PS.wants; rw [hfe, hn]; omega)
  have HF := Lib.hid hfe
  have HR := Lib.hid hre
  have HU := Lib.hid hue
  have hnb : (n : Int) ≤ r := by omega
  have hnn : (D : Int) + (f : Int) = (n : Int) := by omega
  obtain ⟨n0, hn0⟩ : ∃ n0, n0 = min u n := ⟨_, rfl⟩
  have hmn : min (u : Int) (n : Int) = (n0 : Int) := by omega
  have hn0u : n0 ≤ u := by omega
  have HN0 := Lib.hid hn0
  have hk1 : ¬ r - (f : Int) < (D : Int) := by omega
  clear h hs hok hwf hfar hf0 hfe hre hue hrise hany hn hn0
  go_enter Tryz.func11, Tryz.ntmps11
  go_wp2_with (first
    | (go_at_call 18; refine (lists_any _ _ _ _ _ H.out Hok.out D _ gone HS.out hl HWF.out).mono ?_; rintro e w1 ⟨rfl, hc1⟩; rw [HF.out]; have H1 := Lib.hid (H.out.chg0 hc1))
    | (go_at_call 17; refine (room_any _ _ _ _ _ H1.out Hok.out hcap).mono ?_; rintro e w2 ⟨rfl, hc2⟩; rw [HR.out]; have H2 := Lib.hid (H1.out.chg0 hc2))
    | (go_at_call 14; refine (usable_any _ _ _ _ _ H2.out Hok.out).mono ?_; rintro e w3 ⟨v3, rfl, hN3, hc3⟩; obtain ⟨a3, c3, e3, hle3, hcm3, _⟩ := ownsRow_slice hN3.1; rw [nums_length, HU.out] at e3 hle3; subst e3; have H3 := Lib.hid (H2.out.chg0 hc3); have HN3 := Lib.hid hN3; clear hN3)
    | fail)
  have HO : Hid (P.old D gone = (nums P.usable).take n0) := Lib.hid (by
    unfold PS.old; rw [HW.out, HN0.out, ← HU.out, ← nums_length P.usable, List.take_eq_take_min, Nat.min_comm])
  have h3 := HN3.out.1
  rw [nums_length, HU.out] at h3
  have HT := Lib.hid (NewI.take (w0 := w2) h3 (fun g e => HN3.out.2 g e) hn0u (by rw [nums_length]; exact HU.out))
  have hoc : Chg (fun _ => False) w w3 := (hc1.trans hc2 (fun _ f => f.elim)).trans hc3 (fun _ f => f.elim)
  obtain ⟨old, hold⟩ : ∃ old, P.old D gone = old := ⟨_, rfl⟩
  have HOl : Hid (old.length = n0) := Lib.hid (by rw [← hold, HO.out, List.length_take, nums_length, HU.out]; omega)
  have HRow : Hid (w3.ownsRow 0 3 1 (.slice a3 n0 c3) n0 (old.map (Value.int .i64))) := Lib.hid (by
    have := HT.out.1
    rw [← HO.out, hold, HOl.out] at this
    exact this)
  have hwsz : w.heap.size ≤ w2.heap.size := (hc1.trans hc2 (fun _ f => f.elim)).size
  have HG3 : Hid (∀ g, (Value.slice a3 n0 c3).ownBlock = some g → w.heap.size ≤ g) := Lib.hid (fun g e => Nat.le_trans hwsz (HT.out.2 g e))
  have HOC := Lib.hid hoc
  have HOLD := Lib.hid hold
  have h3w := H3.out
  clear HN3 HT h3 hold hoc hc1 hc2 hc3 H1 H2 hle3
  go_loopg [40, 13] n0 (fun gm iv nv wr => ∃ k : Nat, k ≤ n0 ∧ gm = n0 - k ∧ iv = .int .i64 k ∧ PoolF wr pb m1 m2 { P with free := stays P.free (old.take k) } ∧ Chg (fun x => x = m1) w3 wr)
  case atStart => exact ⟨0, by omega, by omega, rfl, by rw [List.take_zero, stays_nil]; exact H3.out, Chg.refl _ _⟩
  case round =>
    obtain ⟨k, hk, hg, rfl, hP, hc⟩ := hrel
    have Hg := Lib.hid hg
    have HP := Lib.hid hP
    have HC := Lib.hid hc
    obtain ⟨q0, q1, q2, q3, qf⟩ := hP.cells
    clear hg
    by_cases hlt' : k < n0
    · obtain ⟨x, hx⟩ : ∃ x, old[k]? = some x := ⟨_, List.getElem?_eq_getElem (by rw [HOl.out]; exact hlt')⟩
      obtain ⟨m, rfl, hmP⟩ := old_at (P := P) Hok.out (k := k) (n := n0) (x := x) (by rw [← HO.out, HOLD.out]; exact hx)
      have hsn : old.take (k + 1) = old.take k ++ [(m : Int)] := by rw [List.take_add_one, hx]; rfl
      have HSn := Lib.hid hsn
      obtain ⟨_, _, e, _, _, hgg⟩ := ownsRow_slice HRow.out
      cases e
      obtain ⟨g, rfl⟩ := hgg (by omega)
      have hgm : ¬ g = m1 := fun e => by have := HG3.out g rfl; omega
      have hrow := ownsRow_chg HRow.out hc (fun g' e => by simp only [Value.ownBlock, Option.some.injEq] at e; subst e; exact hgm)
      have hcell := hrow.cellAt k (by omega)
      have cx : wr.cell? ⟨g, k, none⟩ = some (.int .i64 m) := by rw [hcell, List.getElem?_map, hx]; rfl
      obtain ⟨M, hown, hM⟩ := hP.fr
      have HM := Lib.hid hM
      have HOwn := Lib.hid hown
      clear hP hc hx hsn hrow hcell hM hown
      go_wp2_with (first
        | (at_delete; refine wpList_delete_own _ rfl _ _ 62 3 rfl 3 law3 Tryz.underlying62 _ m1 _ _ rfl HOwn.out _ _ rfl (keyOf_int_mk Tryz.underlying3 (wfI (by omega) (by omega))) ?_; intro w5 hown5 hturn5; have HOwn5 := Lib.hid hown5; have HC5 : Hid (Chg (fun x => x = m1) wr w5) := Lib.hid ((Chg.refl (fun x => x = m1) wr).grown hturn5.grown (fun k e => .inl (by cases e; rfl))); clear hown5 hturn5)
        | go_in)
      go_roundg (n0 - (k + 1))
      case measure => have := Hg.out; omega
      case rel =>
        refine ⟨k + 1, by omega, rfl, by go_num, ?_, HC.out.trans HC5.out (fun x e => .inl e)⟩
        have := HP.out.setFree HC5.out HOwn5.out (HM.out.del (stays_pair Hok.out _) m)
        rw [HSn.out, ← stays_snoc]
        exact this
    · have hkn : n0 = k := by omega
      subst hkn
      have hP0 : Hid (PoolF wr pb m1 m2 { P with size := P.size + 0, free := stays P.free old }) := Lib.hid (by
        have := HP.out
        rw [List.take_of_length_le (by rw [HOl.out]; omega)] at this
        exact this)
      have hrow0 : Hid (wr.ownsRow 0 3 1 (.slice a3 (n0 + 0) c3) (n0 + 0) ((old ++ news P.size 0).map (Value.int .i64))) := Lib.hid (by
        have := ownsRow_chg HRow.out hc (fun g' e e2 => by have e3 : g' = m1 := e2; have := HG3.out g' e; omega)
        rw [show old ++ news P.size 0 = old by simp [news]]
        exact this)
      have hcw : Hid (Chg (fun x => x = pb ∨ x = m1) w wr) := Lib.hid ((HOC.out.mono (fun _ f => f.elim)).trans HC.out (fun x e => .inl (.inr e)))
      have hnu : n - n0 = n - u := by have := HN0.out; omega
      have HNU := Lib.hid hnu
      obtain ⟨i1, hi', hz0, hz1, hz2⟩ := info_parts info3
      clear hP hc HP HC q0 q1 q2 q3 qf Hg HRow hnu
      go_wp2_with fail
      go_loopg [11] (n - n0) (fun gm lv wr => ∃ (j : Nat) (a : Option Addr) (c : Nat), j ≤ n - n0 ∧ gm = n - n0 - j ∧ lv = .slice a (n0 + j) c ∧ wr.ownsRow 0 3 1 (.slice a (n0 + j) c) (n0 + j) ((old ++ news P.size j).map (Value.int .i64)) ∧ (∀ g, (Value.slice a (n0 + j) c).ownBlock = some g → w.heap.size ≤ g) ∧
        PoolF wr pb m1 m2 { P with size := P.size + j, free := stays P.free old } ∧ Chg (fun x => x = pb ∨ x = m1) w wr)
      case atStart => exact ⟨0, a3, c3, by omega, rfl, rfl, hrow0.out, HG3.out, hP0.out, hcw.out⟩
      case round =>
        obtain ⟨j, a4, c4, hj, hg, rfl, hrow, hown4, hP, hc⟩ := hrel
        have Hg := Lib.hid hg
        have HP := Lib.hid hP
        have HC := Lib.hid hc
        have HRow := Lib.hid hrow
        have HO4 := Lib.hid hown4
        obtain ⟨q0, q1, q2, q3, qf⟩ := hP.cells
        have qf0 := qf 0
        have hjn : (n0 : Int) + (j : Int) = ((n0 + j : Nat) : Int) := by omega
        clear hg hP hc hrow hown4 hP0 hrow0 hcw
        by_cases hlt'' : n0 + j < n
        · obtain ⟨ln, hln⟩ : ∃ ln, ln = n0 + j := ⟨_, rfl⟩
          obtain ⟨sz, hsz2⟩ : ∃ sz, sz = P.size + j := ⟨_, rfl⟩
          have hli : (ln : Int) < (n : Int) := by omega
          have hlb : ln ≤ 3000000 := by omega
          have hsb : sz ≤ 3000000 := by omega
          have HLn := Lib.hid hln
          have HSz := Lib.hid hsz2
          rw [← hln] at HRow HO4 ⊢
          have q0' : wr.cell? ⟨pb, 0, none⟩ = some (.int .i64 sz) := by rw [hsz2]; exact q0
          clear hln hsz2 q0 hjn
          go_wp2_with (first
            | (at_builtin; refine wpList_append_lies _ rfl _ _ _ rfl 0 3 i1 (.int .i64 0) 1 8 Tryz.underlying22 hi' hz0 hz1 hz2 rfl (by omega) (.slice a4 ln c4) ln ((old ++ news P.size j).map (Value.int .i64)) (by rfl) (HRow.out.alloc _) ⟨wr.heap.size, 0, none⟩ 1 1 [.int .i64 sz] (by rfl) (by rfl) (World.news_of_block (cs := #[.int .i64 sz]) (t := 3) (fr := (0, 0)) (heap_alloc_new wr _)) (by simp [Value.oneCell']) (by omega) (by unfold maxLen; omega) (by omega) (Nat.zero_le _) (wr.heap.size + 1) (Array.size_push _) ?_; intro g cap' w5 hrow5 hgrow5 hat5 hlt5; have hc5 : Chg (fun k => (Value.slice a4 ln c4).ownBlock = some k) wr w5 := (((Chg.refl (fun k => (Value.slice a4 ln c4).ownBlock = some k) wr).alloc (.cells #[.int .i64 sz] 3)).grown hgrow5 (fun k e => .inl e)); have HP5 := Lib.hid (HP.out.chg hc5 (fun e => (by have := HO4.out _ e; omega)) (fun e => (by have := HO4.out _ e; omega)) (fun e => (by have := HO4.out _ e; omega))); have d0 : w5.cell? ⟨pb, 0, none⟩ = some (.int .i64 sz) := (by rw [HSz.out]; exact HP5.out.cells.1); have df := HP5.out.cells.2.2.2.2 0; have HC5 := Lib.hid hc5; have HRow5 := Lib.hid hrow5; have HAt5 := Lib.hid hat5; clear hrow5 hgrow5 hat5 hc5)
            | fail)
          go_roundg (n - n0 - (j + 1))
          case measure => have := Hg.out; omega
          case rel =>
            have hsz1 : ((sz : Int) + 1) = ((P.size + (j + 1) : Nat) : Int) := by have := HSz.out; omega
            have hgpb : g ≠ pb ∧ w.heap.size ≤ g := by
              have hwr := HC.out.size
              rcases HAt5.out with e | e
              · have := HO4.out _ e; omega
              · omega
            refine ⟨j + 1, some ⟨g, 0, none⟩, cap', by omega, rfl, by rw [HLn.out]; rfl, ?_, fun g' e => ?_, ?_, ?_⟩
            · rw [news_succ, ← List.append_assoc, List.map_append, ← HSz.out, show n0 + (j + 1) = ln + 1 by have := HLn.out; omega]
              exact ownsRow_chg HRow5.out (chg1 _) (fun g' e e2 => by simp only [Value.ownBlock, Option.some.injEq] at e; subst e; exact hgpb.1 e2)
            · simp only [Value.ownBlock, Option.some.injEq] at e
              subst e; exact hgpb.2
            · rw [hsz1]; exact HP5.out.setSize (P.size + (j + 1))
            · exact ((HC.out.trans HC5.out (fun x e => .inr (HO4.out x e))).setCell (p := ⟨pb, 0, none⟩) (.inl (.inl rfl)) _)
        · obtain ⟨ln, hln⟩ : ∃ ln, ln = n0 + j := ⟨_, rfl⟩
          have hli : ¬ (ln : Int) < (n : Int) := by omega
          have hlb : ln ≤ 3000000 := by omega
          have HLn := Lib.hid hln
          have HGv : Hid (P.given D gone = old ++ news P.size j) := Lib.hid (by
            unfold PS.given; rw [HOLD.out, HW.out, HU.out, ← HNU.out, show j = n - n0 by omega])
          rw [← hln] at HRow HO4 ⊢
          obtain ⟨ag, cg, rfl, hgn, hgc⟩ := HS.out
          have Hgn := Lib.hid hgn
          have Hgc := Lib.hid hgc
          clear hln q0 hjn hgn hgc
          go_wp2_with fail
          go_loopg [72, 15] gone.length (fun gm iv nv wx => ∃ k : Nat, k ≤ gone.length ∧ gm = gone.length - k ∧ iv = .int .i64 k ∧ PoolF wx pb m1 m2 { P with size := P.size + j, free := stays P.free old ++ back (gone.take k) ver } ∧ Chg (fun x => x = m1) wr wx)
          case atStart => exact ⟨0, by omega, rfl, rfl, by rw [List.take_zero]; simp only [back, List.map_nil, List.append_nil]; exact HP.out, Chg.refl _ _⟩
          case round =>
            obtain ⟨k, hk, hg, rfl, hP, hc⟩ := hrel
            have Hg2 := Lib.hid hg
            have HP2 := Lib.hid hP
            have HCx := Lib.hid hc
            obtain ⟨_, _, q2, _, _⟩ := hP.cells
            clear hg
            by_cases hlt3 : k < gone.length
            · obtain ⟨x, hx⟩ : ∃ x, gone[k]? = some x := ⟨_, List.getElem?_eq_getElem hlt3⟩
              have hxm := List.mem_of_getElem? hx
              have hx2 := ((riseK_facts HRise.out).2 x hxm).1
              obtain ⟨m, rfl⟩ : ∃ m : Nat, x = m := ⟨x.toNat, by omega⟩
              have Hwx := Lib.hid (HWF.out _ hxm)
              cases ag with
              | none => have := Hgn.out rfl; subst this; simp at hlt3
              | some ad =>
                have hfr := HFar.out ad _ _ rfl (fun e => by subst e; simp at hlt3)
                have hcx := Hgc.out ad rfl k m hx
                have hch : Chg (fun y => y = pb ∨ y = m1) w wr := HC.out.trans hc (fun y e => .inl (.inr e))
                have hbk : (ad.add k).block = ad.block := by unfold Addr.add; split <;> rfl
                have cx : wr.cell? (ad.add k) = some (.int .i64 m) := (World.cell?_of_block (a := ad.add k) (by rw [hbk]; exact hch.block _ hfr.2.2 (fun e => e.elim hfr.1 hfr.2.1))).trans hcx
                obtain ⟨M, hown, hM⟩ := hP.fr
                have HM := Lib.hid hM
                have HOwn := Lib.hid hown
                have HX := Lib.hid hx
                have hki : (k : Int) < (gone.length : Int) := by omega
                have hk0 : (0 : Int) ≤ (k : Int) := by omega
                have hML : (stays P.free old ++ back (gone.take k) ver).length < maxLen := by
                  have h1 : (stays P.free old).length ≤ P.free.length := List.length_filter_le _ _
                  have h2 := Hok.out.len
                  rw [List.length_append]; unfold back; rw [List.length_map, List.length_take]; unfold maxLen; omega
                have HML := Lib.hid hML
                clear hP hc hx hxm hfr hcx hch hM hown hML
                go_wp2_with (first
                  | (at_mapUpdate; refine wpList_mapUpdate_own _ rfl _ _ _ 62 rfl 3 3 law3 Tryz.underlying62 _ m1 _ M rfl HOwn.out HML.out _ _ _ rfl rfl (keyOf_int_mk Tryz.underlying3 Hwx.out) _ [] (plainElem_int Tryz.underlying3 hver) ?_; intro w6 hown6 hgrow6; have HOwn6 := Lib.hid hown6; have HC6 : Hid (Chg (fun x => x = m1) wr w6) := Lib.hid ((Chg.refl (fun x => x = m1) wr).grown hgrow6 (fun k e => .inl (by cases e; rfl))); clear hown6 hgrow6)
                  | go_in)
                go_roundg (gone.length - (k + 1))
                case measure => have := Hg2.out; omega
                case rel =>
                  refine ⟨k + 1, by omega, rfl, by go_num, ?_, HCx.out.trans HC6.out (fun y e => .inl e)⟩
                  have hb : back (gone.take (k + 1)) ver = back (gone.take k) ver ++ [(m, ver)] := by
                    unfold back; rw [List.take_add_one, HX.out, List.map_append]; rfl
                  rw [hb, ← List.append_assoc]
                  refine HP2.out.setFree HC6.out HOwn6.out (HM.out.put m ver (fun q hq e => ?_))
                  rcases List.mem_append.1 hq with e1 | e1
                  · have hno : P.has (m : Int) = false := by
                      have := List.any_eq_false.1 HAny.out (m : Int) (List.mem_of_getElem? HX.out)
                      simpa using this
                    have : P.has (m : Int) = true := by
                      unfold PS.has; rw [List.any_eq_true]
                      exact ⟨q, (List.mem_filter.1 e1).1, by rw [beq_iff_eq, e]⟩
                    rw [hno] at this; cases this
                  · obtain ⟨y, hy, rfl⟩ := List.mem_map.1 e1
                    have hlt4 : y < (m : Int) := by
                      have hp := (riseK_facts HRise.out).1
                      obtain ⟨i, hi, rfl⟩ := List.mem_take_iff_getElem.1 hy
                      have hgk := (List.getElem?_eq_some_iff.1 HX.out)
                      have := List.pairwise_iff_getElem.1 hp i k (by omega) hgk.1 (by omega)
                      rw [hgk.2] at this; exact this
                    have e' : y.toNat = m := e
                    omega
            · have hch : Chg (fun y => y = pb ∨ y = m1) w wr := HC.out.trans hc (fun y e => .inl (.inr e))
              have hrow3 : wr.ownsRow 0 3 1 (.slice a4 ln c4) ln ((P.given D gone).map (Value.int .i64)) := by
                rw [HGv.out]; exact ownsRow_chg HRow.out hc (fun g' e e2 => by have e3 : g' = m1 := e2; have := HO4.out g' e; omega)
              have hPA : PoolF wr pb m1 m2 (P.after D gone ver) := by
                have hk2 : gone.take k = gone := List.take_of_length_le (by omega)
                rw [hk2] at hP
                have hjw : j = P.wants D gone - P.usable.length := by rw [HW.out, HU.out, ← HNU.out]; omega
                rw [hjw] at hP
                have := hP.perm (L := (stays P.free (P.old D gone) ++ back gone ver).mergeSort leQ) (by rw [HOLD.out]; exact (List.mergeSort_perm _ leQ).symm)
                exact this
              have hgl : (P.given D gone).length = ln := by
                have := hrow3.1
                rw [List.length_map] at this
                omega
              have HPA := Lib.hid hPA
              have HCH := Lib.hid hch
              have HGL := Lib.hid hgl
              obtain ⟨B, hB⟩ : ∃ B, B = wr.heap.size := ⟨_, rfl⟩
              have HB := Lib.hid hB
              have HBw : Hid (w.heap.size ≤ B) := Lib.hid (by rw [hB]; exact hch.size)
              have hlnp := HRow.out
              clear hP hc HP HC HRow hch hPA hgl Hg2 HP2 HCx hB
              rcases ownsRow_slice hrow3 with ⟨a5, c5, e5, hlc, hcm, hpos⟩
              cases e5
              cases a4 with
              | none =>
                have hln0 : ln = 0 := by
                  rcases Nat.eq_zero_or_pos ln with e | e
                  · exact e
                  · obtain ⟨g, e⟩ := hpos e; cases e
                subst hln0
                clear hpos hrow3
                have HG0 : Hid (P.given D gone = []) := Lib.hid (List.eq_nil_of_length_eq_zero HGL.out)
                go_wp2_with (at_make; refine wpList_make_own _ rfl _ _ 22 rfl 0 3 i1 (.int .i64 0) 1 Tryz.underlying22 hi' hz0 hz1 .i64 .i64 _ 0 rfl rfl (by simp) (by omega) (by unfold maxLen; omega) (Nat.zero_le _) ?_; intro w1 hown1 hg1; rw [← HB.out] at hown1 ⊢; have Hown1 := Lib.hid hown1; have Hg1 := Lib.hid hg1; clear hown1 hg1)
                go_ret2
                refine ⟨_, rfl, ?_, HPA.out.chg0 ((Chg.refl (fun _ => False) _).grown Hg1.out (fun k e => by cases e)), HCH.out.grown Hg1.out (fun k e => by cases e)⟩
                rw [HG0.out]
                exact ⟨Hown1.out, fun g e => by have e2 : some B = some g := e; have := HBw.out; injection e2 with e3; rw [← e3]; exact this⟩
              | some ad4 =>
                have HRow3 := Lib.hid hrow3
                clear hpos hrow3
                go_wp2_with (first
                  | (at_make; refine wpList_make_own _ rfl _ _ 22 rfl 0 3 i1 (.int .i64 0) 1 Tryz.underlying22 hi' hz0 hz1 .i64 .i64 _ ln rfl rfl (by simp) (by rw [hz2]; omega) (by unfold maxLen; omega) (Nat.zero_le _) ?_; intro w1 hown1 hg1; rw [← HB.out] at hown1 ⊢; have Hown1 := Lib.hid hown1; have Hg1 := Lib.hid hg1; clear hown1 hg1)
                  | (at_builtin; refine wpList_append_own_at _ rfl _ _ 22 rfl 0 3 i1 (.int .i64 0) 1 8 Tryz.underlying22 hi' hz0 hz1 hz2 rfl (by decide) (.slice (some ⟨B, 0, none⟩) 0 ln) 0 [] (by rfl) Hown1.out ad4 ln c4 ((P.given D gone).map (Value.int .i64)) rfl (by rw [List.length_map, HGL.out, Nat.mul_one]) (fun jj u hu => by have h := row_at HRow3.out hu; exact Hg1.out.cell h (by simp)) (by intro u hu; obtain ⟨x, _, rfl⟩ := List.mem_map.1 hu; rfl) (by unfold maxLen; omega) (by omega) (Nat.zero_le _) ?_; intro v' w2 hown2 hg2 hnil2 hat2))
                rw [Nat.zero_add, List.nil_append] at hown2
                obtain ⟨a6, c6, rfl, _⟩ := ownsRow_slice hown2
                have Hown2 := Lib.hid hown2
                have Hg2 := Lib.hid hg2
                have hge : Hid (∀ g, (Value.slice a6 ln c6).ownBlock = some g → B ≤ g) := Lib.hid (fun g e => by
                  rcases hat2 with e2 | e2
                  · rw [e] at e2; simp only [Value.ownBlock, Option.some.injEq] at e2; omega
                  · have := Hg1.out.size
                    rw [e] at e2; simp only [Option.some.injEq] at e2
                    have := HB.out; omega)
                clear hown2 hg2 hnil2 hat2
                go_wp2
                go_ret2
                have hc2 : Chg (fun _ => False) wr w2 := ((Chg.refl (fun _ => False) wr).grown Hg1.out (fun k e => by cases e)).grown Hg2.out (fun k e => (Or.inr (by simp only [Value.ownBlock, Option.some.injEq] at e; rw [← HB.out]; omega)))
                refine ⟨_, rfl, ⟨?_, fun g e => Nat.le_trans HBw.out (hge.out g e)⟩, HPA.out.chg0 hc2, HCH.out.trans hc2 (fun _ f => f.elim)⟩
                rw [HGL.out]; exact Hown2.out
end Go.Proofs.YtipclbibomemjaaGreatDoor
