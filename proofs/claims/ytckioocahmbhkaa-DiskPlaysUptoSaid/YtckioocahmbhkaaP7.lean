/- Walks: the pair's write. -/
import Derived.Test.YtckioocahmbhkaaP5
import Derived.Deep.AppendLies
import Derived.Laws.AppendOwnNone
import Derived.StillTailTactics
namespace Go.Proofs.Ytckioocahmbhkaa
open Go Go.RowKit Go.Maps Go.MuLone

section
variable {w0 w w' : World} {pb b rb gl n cap : Nat} {own own' rown rown' : Own} {D D' R R' : DS}
theorem PairF.row0 (h : PairF w0 w pb own b rown rb gl n cap D R) : w.ownsRow 0 5 1 (.slice (some ⟨gl, 0, none⟩) 0 cap) 0 [] := by
  obtain ⟨es, hr⟩ := h.row
  rcases hr.2 with ⟨e, _⟩ | ⟨g, c, cur, e, h1, h2, h3, h4, h5, _⟩
  · cases e
  · cases e
    exact ⟨rfl, .inr ⟨gl, cap, cur, rfl, h1, h2, Nat.zero_le _, h4, h5, by simp⟩⟩
/-- Another place. -/
theorem PairF.newl (h : PairF w0 w pb own b rown rb gl n cap D R) {g' n' cap' : Nat} {es : List Value} (hc : Chg (fun k => k = gl ∨ k = pb) w w') (hg : g' = gl ∨ w.heap.size ≤ g')
    (hb : w'.heap[pb]? = some (.cells #[.pointer (some ⟨b, 0, none⟩), .pointer (some ⟨rb, 0, none⟩), .slice (some ⟨g', 0, none⟩) n' cap'] 63)) (hr : w'.ownsRow 0 5 1 (.slice (some ⟨g', 0, none⟩) n' cap') n' es) :
    PairF w0 w' pb own b rown rb g' n' cap' D R := by
  have h1 := h.plt
  have h2 := h.llt
  have hsz := h.st.below.size
  refine ⟨h.st.other hc (fun k hk => ?_), h.rs.other hc (fun k hk => ?_), h.dis, hb, ⟨es, hr⟩, h.pnew, ?_, h.po, h.pr, ?_, ?_, ?_⟩
  · rcases hk with rfl | rfl
    · exact ⟨h.lo, h.gnew⟩
    · exact ⟨h.po, h.pnew⟩
  · rcases hk with rfl | rfl
    · exact ⟨h.lr, h.gnew⟩
    · exact ⟨h.pr, h.pnew⟩
  · rcases hg with rfl | e
    · exact h.gnew
    · omega
  · rcases hg with rfl | e
    · exact h.lo
    · exact h.st.free e
  · rcases hg with rfl | e
    · exact h.lr
    · exact h.rs.free e
  · rcases hg with rfl | e
    · exact h.ne
    · omega
theorem PairF.setl (h : PairF w0 w pb own b rown rb gl n cap D R) (j : Nat) (hj : j < n) (x : Value) : PairF w0 (w.setCell ⟨gl, j, none⟩ x) pb own b rown rb gl n cap D R := by
  obtain ⟨es, hr⟩ := h.row
  have hl : es.length = n * 1 := hr.1
  exact h.newl (((Chg.refl (fun k => k = gl ∨ k = pb) w).setCell (p := ⟨gl, j, none⟩) (.inl (.inl rfl)) x)) (.inl rfl) (heap_setCell_other _ h.blk (fun e => h.ne e.symm)) (ownsRow_setCell hr j x (by omega))
theorem PairF.drew (h : PairF w0 w pb own b rown rb gl n cap D R) : PairF w0 w.drew pb own b rown rb gl n cap D R := h.chg0 (Chg.refl (fun _ => False) w).drew
end

/-- append of bytes that can be read, onto bytes of the call's own. -/
theorem wpList_append_sees {w : World} {ops : Array Oper} {rest : List Oper} {o : Oper} {a : Act} {Q : Exit → Act → World → Prop} (hgd : o.guard = none) (s x : Operand)
    (ho : o.op = .call { callee := .builtin .append, args := #[s, x], argTypes := #[27, 27] })
    (gl n cap : Nat) (xs : List Value) (hs : a.eval s = .slice (some ⟨gl, 0, none⟩) n cap) (hown : w.ownsRow 0 5 1 (.slice (some ⟨gl, 0, none⟩) n cap) n xs)
    (v : Value) (p : List UInt8) (hx : a.eval x = v) (hv : SeesB w v p) (hn : ∀ m c, v = .slice none m c → c = 0) (h63 : n + p.length ≤ 140737488351232)
    (h : ∀ g cap' w', w'.ownsRow 0 5 1 (.slice (some ⟨g, 0, none⟩) (n + p.length) cap') (n + p.length) (xs ++ bVs p) → w.grownBy w' (some gl) → (g = gl ∨ g = w.heap.size) → wpList Try.prog ops Q rest (a.put o.dst (.slice (some ⟨g, 0, none⟩) (n + p.length) cap')) w') :
    wpList Try.prog ops Q (o :: rest) a w := by
  obtain ⟨i1, hi', hz0, hz1, hz2⟩ := info_parts info5
  obtain ⟨ad, c, rfl, h1, h2⟩ := hv
  cases ad with
  | none =>
    obtain rfl : p = [] := h1 rfl
    obtain rfl : c = 0 := hn _ _ rfl
    have hk := h gl cap w (by simpa [bVs] using hown) ⟨rfl, rfl, rfl, Nat.le_refl _, fun _ _ _ => rfl⟩ (.inl rfl)
    exact wpList_append_own_none hgd s x 27 ho 0 5 i1 1 Try.underlying27 hi' _ n xs hs hown hx hk
  | some ad =>
    refine wpList_append_own_at _ hgd s x 27 ho 0 5 i1 (.int .u8 0) 1 1 Try.underlying27 hi' hz0 hz1 hz2 rfl (by decide) _ n xs hs hown ad p.length c (bVs p) hx (by rw [bVs_length, Nat.mul_one]) (fun j u hu => by obtain ⟨x, hx, rfl⟩ := bVs_get hu; exact h2 ad rfl j x hx) oneCell_bVs (by unfold maxLen; omega) (by omega) (Nat.zero_le _) ?_
    intro v' w' hown' hg hnil hat
    obtain ⟨g, cap', rfl⟩ : ∃ g cap', v' = .slice (some ⟨g, 0, none⟩) (n + p.length) cap' := by
      rcases hown'.2 with ⟨e, _⟩ | ⟨g, cap', _, e, _⟩
      · have := (hnil.1 e).1; cases this
      · exact ⟨g, cap', e⟩
    refine h g cap' w' hown' hg ?_
    simp only [Value.ownBlock, Option.some.injEq] at hat
    simpa using hat

/-- Bytes that are not the pair's. -/
structure Src (w : World) (pb : Nat) (own rown : Own) (gl : Nat) (v : Value) (p : List UInt8) : Prop where
  sees : SeesB w v p
  nil : ∀ m c, v = .slice none m c → c = 0
  far : ∀ ad n c, v = .slice (some ad) n c → p ≠ [] → ad.spot = none ∧ ¬ own.blocks ad.block ∧ ¬ rown.blocks ad.block ∧ ad.block ≠ pb ∧ ad.block ≠ gl ∧ ad.block < w.heap.size

set_option maxRecDepth 100000 in
set_option maxHeartbeats 4000000 in
theorem pwrite_any {w0 w : World} {pb b rb gl n cap : Nat} {own rown : Own} {D : DS} (h : PairF w0 w pb own b rown rb gl n cap D D) (hok : D.ok) (hc : D.cap ≤ 524287) (hwr : D.wr < 1000000) (hpn : D.pending.length < 1000000) (i : Int) (v : Value) (p : List UInt8) (hp : Src w pb own rown gl v p) (hpl : p.length ≤ 10000) :
    Calls Try.prog 41 #[.pointer (some ⟨pb, 0, none⟩), .int .i64 i, v] w fun e w' => e = .returned (.bool true) ∧ ∃ own' rown' gl' n' cap', PairF w0 w' pb own' b rown' rb gl' n' cap' (D.write i p).2 (D.write i p).2 := by
  have H := Lib.hid h
  have Hok := Lib.hid hok
  have HP := Lib.hid hp
  obtain ⟨c0, c1, c2, cf⟩ := h.cells
  obtain ⟨i1, hi', hz0, hz1, hz2⟩ := info_parts info5
  obtain ⟨a, c, rfl, _⟩ := hp.sees
  have R0 := Lib.hid h.row0
  have fz2 := cf 2
  have hplt := h.plt
  have hllt := h.llt
  have hne := h.ne
  clear h hok cf
  go_enter Try.func41, Try.ntmps41
  go_wp2_with (first
    | (at_builtin; refine wpList_append_sees rfl _ _ rfl gl 0 cap [] rfl R0.out _ p rfl HP.out.sees HP.out.nil (by omega) ?_; intro g1 cap1 w1 hr1 hg1 hat1; rw [Nat.zero_add, List.nil_append] at hr1; have HR1 := Lib.hid hr1; have HG1 := Lib.hid hg1; clear hr1 hg1)
    | (at_builtin; refine wpList_append_lies _ rfl _ _ _ rfl 0 5 i1 (.int .u8 0) 1 1 Try.underlying27 hi' hz0 hz1 hz2 rfl (by omega) (.slice (some ⟨g1, 0, none⟩) p.length cap1) p.length (bVs p) (by rfl) (HR1.out.alloc _) ⟨w1.heap.size, 0, none⟩ 2 2 [.int .u8 47, .int .u8 11] (by rfl) (by rfl) (World.news_of_block (cs := #[.int .u8 47, .int .u8 11]) (t := 5) (fr := (0, 0)) (heap_alloc_new w1 _)) (by simp [Value.oneCell']) (by omega) (by unfold maxLen; omega) (by omega) (Nat.zero_le _) _ (Array.size_push _) ?_; intro g2 cap2 w2 hr2 hg2 hat2 hlt2; have HR2 := Lib.hid hr2; have cg2 : Chg (fun k => k = gl) w w2 := ((((Chg.refl (fun k => k = gl) w).grown HG1.out (fun k e => .inl (by cases e; rfl))).alloc (.cells #[.int .u8 47, .int .u8 11] 5)).grown hg2 (fun k e => by simp only [Value.ownBlock, Option.some.injEq] at e; subst e; exact hat1.imp id (fun e => Nat.le_of_eq e.symm))); have HCG2 := Lib.hid cg2; have HG1l := Lib.hid (cg2.get H.out.blk (Ne.symm hne)); have d2 : w2.cell? ⟨pb, 2, none⟩ = some (.slice (some ⟨gl, 0, none⟩) n cap) := (by simp [World.cell?, HG1l.out]); have e2 : w2.frozen? ⟨pb, 2, none⟩ = false := (by simp [World.frozen?, HG1l.out]); have HAT2 := Lib.hid hat2; have HL2 := Lib.hid hlt2; clear hr2 hg2 cg2 hat2 hlt2))
  obtain ⟨w3, hw3⟩ : ∃ w3, w3 = w2.setCell ⟨pb, 2, none⟩ (.slice (some ⟨g2, 0, none⟩) (p.length + 2) cap2) := ⟨_, rfl⟩
  have hg2 : g2 = gl ∨ w.heap.size ≤ g2 := by
    rcases HAT2.out with e | e
    · simp only [Value.ownBlock, Option.some.injEq] at e
      subst e
      exact hat1.imp id (fun e => Nat.le_of_eq e.symm)
    · have := HG1.out.size; right; omega
  have hg2pb : g2 ≠ pb := by rcases hg2 with e | e <;> omega
  have hc3 : Chg (fun k => k = gl ∨ k = pb) w w3 := by rw [hw3]; exact (HCG2.out.mono (fun k e => .inl e)).setCell (p := ⟨pb, 2, none⟩) (.inl (.inr rfl)) _
  have P3 : Hid (PairF w0 w3 pb own b rown rb g2 (p.length + 2) cap2 D D) := Lib.hid (H.out.newl hc3 hg2 (by rw [hw3, heap_setCell_same _ HG1l.out]; rfl) (by rw [hw3]; exact ownsRow_chg HR2.out (chg1 _) (fun g e => by cases e; exact hg2pb)))
  have R3 : Hid (w3.ownsRow 0 5 1 (.slice (some ⟨g2, 0, none⟩) (p.length + 2) cap2) (p.length + 2) (bVs p ++ [.int .u8 47, .int .u8 11])) := Lib.hid (by rw [hw3]; exact ownsRow_chg HR2.out (chg1 _) (fun g e => by cases e; exact hg2pb))
  have HP3 : Hid (Src w3 pb own rown g2 (.slice a p.length c) p) := Lib.hid ⟨HP.out.sees.chg hc3 (fun ad n c e hn => by have := HP.out.far ad n c e hn; exact fun e => e.elim this.2.2.2.2.1 this.2.2.2.1), HP.out.nil, fun ad n c e hn => by
    have := HP.out.far ad n c e hn
    refine ⟨this.1, this.2.1, this.2.2.1, this.2.2.2.1, fun e => ?_, Nat.lt_of_lt_of_le this.2.2.2.2.2 hc3.size⟩
    rcases hg2 with e2 | e2
    · exact this.2.2.2.2.1 (e.trans e2)
    · omega⟩
  rw [← hw3]
  clear hw3 hc3 hg2 hg2pb H R0 HR1 HG1 HR2 HCG2 HG1l d2 e2 HAT2 HL2 hat1 c0 c1 c2 fz2 hplt hllt hne HP
  obtain ⟨c0, c1, c2, _⟩ := P3.out.cells
  have S3 : Hid (SeesB w3.drew (.slice (some ⟨g2, 0, none⟩) p.length cap2) p) := Lib.hid ⟨_, _, rfl, fun e => (by cases e), fun ad e j x hx => by
    cases e
    rw [addr_add]
    have hl := (List.getElem?_eq_some_iff.1 hx).1
    have := R3.out.cellAt j (by omega)
    rw [List.getElem?_append_left (by rw [bVs_length]; exact hl)] at this
    simp only [Nat.zero_add]
    exact this.trans (by simp [bVs, hx])⟩
  obtain ⟨hcn, hcm⟩ : p.length + 2 ≤ cap2 ∧ cap2 ≤ maxLen := by
    obtain ⟨_, _, e, h1, h2, _⟩ := ownsRow_slice R3.out
    cases e
    exact ⟨h1, h2⟩
  unfold maxLen at hcm
  have hcn1 : p.length ≤ cap2 := by omega
  have hcn2 : (p.length : Int) ≤ (cap2 : Int) := by omega
  have hcn0 : (0 : Int) ≤ (p.length : Int) := by omega
  go_still_tail 12, (by kernel_rfl)
  change wpList _ _ _ _ _ w3.drew
  go_wp2_with fail
  refine (write_any w3.drew own b D P3.out.drew.st.disk Hok.out i (some ⟨g2, 0, none⟩) cap2 p (fun _ => ⟨g2, 0, rfl, P3.out.lo, fun j x hx => by
    obtain ⟨_, _, e, _, hs⟩ := S3.out
    cases e
    have := hs _ rfl j x hx
    rwa [addr_add] at this⟩) hcn1 hc hwr hpn).mono ?_
  rintro e w4 ⟨rfl, own4, s4, t4⟩
  have P4 := Lib.hid (P3.out.drew.stepD (P3.out.drew.st.step s4 t4) t4)
  have r3 : w3.drew.ownsRow 0 5 1 (.slice (some ⟨g2, 0, none⟩) (p.length + 2) cap2) (p.length + 2) (bVs p ++ [.int .u8 47, .int .u8 11]) := R3.out
  have R4 : Hid (w4.ownsRow 0 5 1 (.slice (some ⟨g2, 0, none⟩) (p.length + 2) cap2) (p.length + 2) (bVs p ++ [.int .u8 47, .int .u8 11])) := Lib.hid (ownsRow_chg r3 t4.chg (fun g e => by cases e; exact P3.out.lo))
  have q3 : SeesB w3.drew (.slice a p.length c) p := HP3.out.sees.none (Chg.refl (fun _ => False) w3).drew
  have Q4 : Hid (Src w4 pb own4 rown g2 (.slice a p.length c) p) := Lib.hid ⟨q3.chg t4.chg (fun ad n c e hn => (HP3.out.far ad n c e hn).2.1), HP3.out.nil, fun ad n c e hn => by
    have := HP3.out.far ad n c e hn
    refine ⟨this.1, fun e => ?_, this.2.2.1, this.2.2.2.1, this.2.2.2.2.1, Nat.lt_of_lt_of_le this.2.2.2.2.2 t4.chg.size⟩
    rcases t4.new _ e with e2 | e2
    · exact this.2.1 e2
    · exact absurd this.2.2.2.2.2 (Nat.not_lt.2 e2)⟩
  have hpl4 : Hid (((D.write i p).2).pending.length ≤ 1000000) := Lib.hid (by
    unfold DS.write; split
    · show D.pending.length ≤ _; omega
    split
    · show D.pending.length ≤ _; omega
    split
    · show D.pending.length ≤ _; omega
    split
    · show D.pending.length ≤ _; omega
    · show (D.pending ++ [(i.toNat, p)]).length ≤ _; rw [List.length_append]; show _ + 1 ≤ _; omega)
  obtain ⟨d0, d1, d2, _⟩ := P4.out.cells
  have S4 : Hid (SeesB w4 (.slice (some ⟨g2, 0, none⟩) p.length cap2) p) := Lib.hid ⟨_, _, rfl, fun e => (by cases e), fun ad e j x hx => by
    cases e
    rw [addr_add]
    have hl := (List.getElem?_eq_some_iff.1 hx).1
    have := R4.out.cellAt j (by omega)
    rw [List.getElem?_append_left (by rw [bVs_length]; exact hl)] at this
    simp only [Nat.zero_add]
    exact this.trans (by simp [bVs, hx])⟩
  have m47 : w4.cell? ⟨g2, p.length, none⟩ = some (.int .u8 47) := by
    rw [R4.out.cellAt p.length (by omega), List.getElem?_append_right (by rw [bVs_length]; omega), bVs_length, Nat.sub_self]; rfl
  have m11 : w4.cell? ⟨g2, p.length + 1, none⟩ = some (.int .u8 11) := by
    rw [R4.out.cellAt (p.length + 1) (by omega), List.getElem?_append_right (by rw [bVs_length]; omega), bVs_length, Nat.add_sub_cancel_left]; rfl
  clear P3 R3 HP3 S3 s4 t4 q3 r3
  go_wp2_with (go_at_call 23; refine (same_yes _ _ _ p S4.out Q4.out.sees).mono ?_; rintro e w' ⟨rfl, rfl⟩)
  clear S4 R4 m47 m11 d0 d1 d2
  go_loopg [9] (p.length + 2) (fun gm iv wr => ∃ k : Nat, k ≤ p.length + 2 ∧ gm = p.length + 2 - k ∧ iv = .int .i64 k ∧ PairF w0 wr pb own4 b rown rb g2 (p.length + 2) cap2 (D.write i p).2 D ∧ Src wr pb own4 rown g2 (.slice a p.length c) p)
  case atStart => exact ⟨0, by omega, rfl, rfl, P4.out, Q4.out⟩
  case round =>
    obtain ⟨k, hk, hg, rfl, hP, hQ⟩ := hrel
    have Hg := Lib.hid hg
    have HPr := Lib.hid hP
    have HQr := Lib.hid hQ
    obtain ⟨d0, d1, d2, _⟩ := hP.cells
    have Hrow := Lib.hid hP.row
    clear hg hP hQ P4 Q4
    by_cases hlt : k < p.length + 2
    · obtain ⟨es, hr⟩ := Hrow.out
      have hl : es.length = (p.length + 2) * 1 := hr.1
      have hcell := hr.cellAt k (by omega)
      obtain ⟨u0, hcell2⟩ : ∃ u, wr.cell? ⟨g2, k, none⟩ = some u := ⟨_, by rw [hcell]; exact List.getElem?_eq_getElem (by omega)⟩
      have hfz : wr.frozen? ⟨g2, k, none⟩ = false := hr.frozenAt k
      have hk2 : (k : Int) < (p.length : Int) + 2 := by omega
      clear hcell hl hr
      go_wp2_with fail
      go_roundg (p.length + 2 - (k + 1))
      case measure => have := Hg.out; omega
      case rel =>
        refine ⟨k + 1, by omega, rfl, by go_num, HPr.out.setl k hlt _, HQr.out.sees.chg (chg1 _) (fun ad n c e hn => (HQr.out.far ad n c e hn).2.2.2.2.1), HQr.out.nil, fun ad n c e hn => ?_⟩
        have := HQr.out.far ad n c e hn
        exact ⟨this.1, this.2.1, this.2.2.1, this.2.2.2.1, this.2.2.2.2.1, Nat.lt_of_lt_of_le this.2.2.2.2.2 (chg1 (b := g2) (o := k) _).size⟩
    · have hk2 : ¬ (k : Int) < (p.length : Int) + 2 := by omega
      go_wp2_with fail
      refine (rwrite_any wr rown rb D HPr.out.rs.disk Hok.out i a c p (fun hp4 => ?_) hpn).mono ?_
      · obtain ⟨a', c', e, hn, hs⟩ := HQr.out.sees
        cases e
        have hpne : p ≠ [] := fun e => by rw [e] at hp4; simp at hp4
        cases a with
        | none => exact (hpne (hn rfl)).elim
        | some ad =>
          have hf := HQr.out.far ad _ _ rfl hpne
          obtain ⟨g, o, sp⟩ := ad
          obtain rfl : sp = none := hf.1
          refine ⟨g, o, rfl, hf.2.2.1, fun j x hx => ?_⟩
          have := hs _ rfl j x hx
          rwa [addr_add] at this
      rintro e w5 ⟨rfl, rown5, s5, t5⟩
      have P5 := Lib.hid (HPr.out.stepR (HPr.out.rs.step s5 t5) t5)
      clear s5 t5
      go_wp2_with (go_at_call 12; refine (num_any _ _).mono ?_; rintro e w' ⟨rfl, rfl⟩)
      go_ret
      exact ⟨rfl, _, _, _, _, _, P5.out⟩
end Go.Proofs.Ytckioocahmbhkaa
