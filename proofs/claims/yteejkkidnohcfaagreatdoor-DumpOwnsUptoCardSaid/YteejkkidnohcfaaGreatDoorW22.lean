/- Walk: the document's Text. -/
import Derived.Test.YteejkkidnohcfaaGreatDoorW21
import Derived.Test.YteejkkidnohcfaaGreatDoorM2
import Derived.Test.YteejkkidnohcfaaGreatDoorW3
import Derived.Lib.AppendZeros
namespace Go.Proofs.YteejkkidnohcfaaGreatDoor
open Go Go.RowKit Go.Maps

theorem step_str {wr : World} {ops : Array Oper} {o : Oper} {a : Act} {K : Act → World → Prop} {Q : Exit → Act → World → Prop} {E : Prop} (hgd : o.guard = none) (s x : Operand)
    (ho : o.op = .call { callee := .builtin .append, args := #[s, x], argTypes := #[49, 9] }) (B : Nat) (v : Value) (zs : Bytes) (hs : a.eval s = v) (hrow : OwnM wr B v zs) (str : ByteArray)
    (hx : a.eval x = .string str) (hl : zs.length + str.size ≤ 1099511627776) (hB : B ≤ wr.heap.size)
    (h : ∀ v' w5, OwnM w5 B v' (zs ++ str.data.toList) → Chg (fun k => v.ownBlock = some k) wr w5 → K (a.put o.dst v') w5) :
    if Region.wanted o (yielded ops a.tmps) = true then Oper.wp Tryz.prog o a wr K Q else E := by
  obtain ⟨v', w5, hr, h1, h2, _⟩ := hrow.append str hl hB o.type
  have hw : Region.wanted o (yielded ops a.tmps) = true := by simp [Region.wanted, hgd]
  rw [if_pos hw]
  exact Lib.wp_append_run wr s x 49 9 ho v (.string str) hs hx v' w5 hr (h v' w5 h1 h2)

set_option maxRecDepth 100000 in
set_option maxHeartbeats 8000000 in
theorem rtext_any (w : World) (v : Value) (ps : List PairB) (h : SeesP w v ps) (hs : SmallP ps) :
    Calls Tryz.prog 6 #[v] w fun e w' => e = .returned (.tuple #[.string ⟨(textB ps).1.toArray⟩, .int .i64 (textB ps).2]) ∧ Chg (fun _ => False) w w' := by
  have HS := Lib.hid hs
  have HP := Lib.hid h
  obtain ⟨a, cap, rfl, hn, hc⟩ := h
  have Hn := Lib.hid hn
  have hln := hs.len
  have hd10 : (decB ps.length).length ≤ 9 + 1 := decB_length 9 ps.length (by omega)
  obtain ⟨D, hD⟩ : ∃ D : ByteArray, D = ⟨(decB ps.length).toArray⟩ := ⟨_, rfl⟩
  have hDs : D.size ≤ 10 := by rw [hD]; show (decB ps.length).toArray.size ≤ 10; simpa using hd10
  have HD := Lib.hid hD
  clear hn hc hs hd10 hD
  go_enter Tryz.func6, Tryz.ntmps6
  go_wp2_with (go_at_call 17; refine (decimal_any 9 ps.length (by omega) (by omega) _).mono ?_; rintro e w1 ⟨rfl, m1, rfl⟩; rw [← HD.out])
  obtain ⟨v0, w2, hk, hM, hc2⟩ := OwnM.conv (w.drewN m1) ((⟨#[99, 111, 112, 112, 105, 99, 101, 32]⟩ : ByteArray) ++ D ++ ⟨#[10]⟩) (by rw [ByteArray.size_append, ByteArray.size_append, show (ByteArray.mk #[99, 111, 112, 112, 105, 99, 101, 32]).size = 8 from rfl, show (ByteArray.mk #[10]).size = 1 from rfl]; omega)
  rw [hk]
  simp only [Result.andThen]
  have hE : ((⟨#[99, 111, 112, 112, 105, 99, 101, 32]⟩ : ByteArray) ++ D ++ ⟨#[10]⟩).data.toList = headOf ps.length ++ linesOf (ps.take 0) := by
    rw [ByteArray.data_append, ByteArray.data_append, HD.out]
    simp [headOf, word, linesOf]
  rw [hE] at hM
  obtain ⟨Z0, hZ0⟩ : ∃ Z, Z = headOf ps.length ++ linesOf (ps.take 0) := ⟨_, rfl⟩
  rw [← hZ0] at hM
  have HZ0 := Lib.hid hZ0
  obtain ⟨g0, cap0, rfl, hg0⟩ := hM.shape
  have HM : Hid (OwnM w2 w.heap.size _ Z0) := Lib.hid hM
  have HC2 : Hid (Chg (fun _ => False) w w2) := Lib.hid (((Chg.refl _ w).drewN m1).trans hc2 (fun _ f => f.elim))
  clear hM hc2 hk hE hZ0
  go_wp2_with fail
  go_loopg [4, 5, 6] ps.length (fun gm tv iv _ wr => ∃ (k : Nat) (tv' : Value) (Z : Bytes), k ≤ ps.length ∧ gm = ps.length - k ∧ iv = .int .i64 k ∧ tv = tv' ∧ Z = headOf ps.length ++ linesOf (ps.take k) ∧ OwnM wr w.heap.size tv' Z ∧ Chg (fun _ => False) w wr ∧ faultOf (ps.drop k) (lastK ps k) = faultOf ps none)
  case atStart => exact ⟨0, _, Z0, by omega, rfl, rfl, rfl, HZ0.out, HM.out, HC2.out, rfl⟩
  case round =>
    obtain ⟨k, tv', Z, hk, hg, rfl, rfl, hZ, hrow, hch, hf⟩ := hrel
    have HZ := Lib.hid hZ
    clear hZ
    obtain ⟨tg, tc, rfl, htg⟩ := hrow.shape
    have Hg := Lib.hid hg
    have HRow := Lib.hid hrow
    have HCh := Lib.hid hch
    have HF := Lib.hid hf
    have HTg := Lib.hid htg
    clear hg hrow hch hf htg
    by_cases hlt : k < ps.length
    · obtain ⟨p, hp⟩ : ∃ p, ps[k]? = some p := ⟨_, List.getElem?_eq_getElem hlt⟩
      have HPr := Lib.hid (HP.out.chg0 HCh.out)
      have HDr := Lib.hid (fault_drop hp (lastK ps k))
      have HPk := Lib.hid hp
      have hki : (k : Int) < (ps.length : Int) := by omega
      have hk0 : (0 : Int) ≤ (k : Int) := by omega
      obtain ⟨me, hme⟩ : ∃ me, me = mayB p.1 p.2 (lastK ps k) := ⟨_, rfl⟩
      have HMe := Lib.hid hme
      clear hme hp
      by_cases hm0 : me = 0
      · subst hm0
        go_wp2_with (go_at_call 18; refine (fault_any _ _ ps HPr.out hln k p HPk.out).mono ?_; rintro e w5 ⟨rfl, hc5⟩; rw [← HMe.out]; have C5 := Lib.hid hc5; clear hc5)
        cases a with
        | none => have := Hn.out rfl; subst this; simp at hlt
        | some ad =>
          obtain ⟨_, _, e1, _, f1⟩ := HPr.out.chg0 C5.out
          cases e1
          obtain ⟨kv, uv, ck, cu, sk, su⟩ := f1 ad rfl k p HPk.out
          have cu' : w5.cell? ⟨(ad.add (k * 2)).block, (ad.add (k * 2)).off + 1, none⟩ = some uv := by
            have h3 : w5.cell? ((ad.add (k * 2)).add 1) = some uv := by rw [add_add]; exact cu
            exact h3
          have SK := Lib.hid sk
          have SU := Lib.hid su
          obtain ⟨ka, kc, rfl, _, _⟩ := sk
          obtain ⟨ua, uc, rfl, _, _⟩ := su
          have HSm : Hid (p.1.length ≤ 16777216 ∧ p.2.length ≤ 16777216) := Lib.hid (HS.out.key p (List.mem_of_getElem? HPk.out))
          obtain ⟨X, hX⟩ : ∃ X : ByteArray, X = ⟨(hexB p.1).toArray⟩ := ⟨_, rfl⟩
          obtain ⟨Y, hY⟩ : ∃ Y : ByteArray, Y = ⟨(hexB p.2).toArray⟩ := ⟨_, rfl⟩
          have hXs : X.size ≤ 33554433 := by
            have h1 := hexB_length p.1
            have h2 : X.size = (hexB p.1).length := by rw [hX]; rfl
            have := HSm.out.1; omega
          have hYs : Y.size ≤ 33554433 := by
            have h1 := hexB_length p.2
            have h2 : Y.size = (hexB p.2).length := by rw [hY]; rfl
            have := HSm.out.2; omega
          have HX := Lib.hid hX
          have HY := Lib.hid hY
          have q1 : ¬ (9223372036854775807 : Nat) < X.size + 1 := by omega
          have q2 : ¬ (9223372036854775807 : Nat) < X.size + 1 + Y.size := by omega
          have q3 : ¬ (9223372036854775807 : Nat) < X.size + 1 + Y.size + 1 := by omega
          have HZl : Hid (Z.length ≤ 1073741924) := Lib.hid (by
            have h1 := decB_length 9 ps.length (by omega)
            have h2 := Nat.le_trans (linesOf_take_le ps k) HS.out.sum
            rw [HZ.out, List.length_append]
            simp [headOf, word]; omega)
          have HRow5 := Lib.hid (HRow.out.chg C5.out (fun _ _ f => f))
          have HG0 : Hid (w.heap.size ≤ w5.heap.size) := Lib.hid (Nat.le_trans HCh.out.size C5.out.size)
          have hadw : ad.block < w.heap.size := by
            obtain ⟨_, _, e0, _, f0⟩ := HP.out
            cases e0
            obtain ⟨k0, u0, c0, _⟩ := f0 ad rfl k p HPk.out
            have h := World.block_lt_of_cell? _ _ c0
            rwa [block_add] at h
          have HNe : Hid (∀ b, b = ad.block → ¬ (Value.slice (some ⟨tg, 0, none⟩) Z.length tc).ownBlock = some b) := Lib.hid (fun b e h => by simp only [Value.ownBlock, Option.some.injEq] at h; have := HTg.out; omega)
          clear hX hY cu f1 hadw
          go_region_held3 (fun w' => w'.cell? (ad.add (k * 2)) = some (.slice ka p.1.length kc) ∧ w'.cell? ⟨(ad.add (k * 2)).block, (ad.add (k * 2)).off + 1, none⟩ = some (.slice ua p.2.length uc))
            (first
              | exact kx6
              | exact kx7
              | exact kx8
              | go_keep)
            (first
              | (go_simp; go_at_call 12; refine (rhex_any _ (.slice ua p.2.length uc) p.2 (SU.out.chg0 C6.out) (by have := HSm.out.2; omega)).mono ?_; rintro e w7 ⟨rfl, hc7⟩; rw [← HY.out]; have C7 := Lib.hid (C6.out.trans hc7 (fun _ f => f.elim)); have kx7 := And.intro (cell_chg hc7 kx6.1 (fun f => f)) (cell_chg hc7 kx6.2 (fun f => f)); clear hc7)
              | (go_simp; go_at_call 12; refine (rhex_any _ (.slice ka p.1.length kc) p.1 (SK.out.chg0 ((Chg.refl _ w5).drew)) (by have := HSm.out.1; omega)).mono ?_; rintro e w6 ⟨rfl, hc6⟩; rw [← HX.out]; have C6 : Hid (Chg (fun _ => False) w5 w6) := Lib.hid (((Chg.refl _ w5).drew).trans hc6 (fun _ f => f.elim)); have kx6 := And.intro (cell_chg C6.out ck (fun f => f)) (cell_chg C6.out cu' (fun f => f)); clear hc6)
              | (refine step_str (wr := w7) (by rfl) _ _ (by rfl) w.heap.size (.slice (some ⟨tg, 0, none⟩) Z.length tc) Z (by rfl) (HRow5.out.chg C7.out (fun _ _ f => f)) (X ++ ⟨#[32]⟩ ++ Y ++ ⟨#[10]⟩) (by rfl) (by rw [ByteArray.size_append, ByteArray.size_append, ByteArray.size_append, show (ByteArray.mk #[32]).size = 1 from rfl, show (ByteArray.mk #[10]).size = 1 from rfl]; have := HZl.out; omega) (Nat.le_trans HG0.out C7.out.size) ?_; intro v8 w8 hm8 hc8; have HM8 := Lib.hid hm8; have C8 := Lib.hid hc8; have kx8 := And.intro (cell_chg hc8 kx7.1 (HNe.out _ (block_add _ _))) (cell_chg hc8 kx7.2 (HNe.out _ (block_add _ _))); clear hm8 hc8))
          all_goals
            go_wp2_with fail
            go_roundg (ps.length - (k + 1))
            case measure => have := Hg.out; omega
            case rel =>
              refine ⟨k + 1, _, _, by omega, rfl, by go_num, rfl, ?_, HM8.out, ?_, ?_⟩
              · rw [take_snoc HPk.out, linesOf_snoc, HZ.out, ByteArray.data_append, ByteArray.data_append, ByteArray.data_append, HX.out, HY.out]
                simp [lineOf]
              · exact ((HCh.out.trans C5.out (fun _ f => f.elim)).trans C7.out (fun _ f => f.elim)).trans C8.out (fun x hx => Or.inr (by simp only [Value.ownBlock, Option.some.injEq] at hx; have := HTg.out; omega))
              · rw [← HF.out, HDr.out, ← HMe.out, if_pos rfl]
                congr 1
                unfold lastK
                rw [if_neg (by omega), Nat.add_sub_cancel, HPk.out]; rfl
      · have hm1 : (me == 0) = false := by rw [beq_eq_false_iff_ne]; exact hm0
        have HM0 := Lib.hid hm0
        clear hm0
        go_wp2_with (go_at_call 18; refine (fault_any _ _ ps HPr.out hln k p HPk.out).mono ?_; rintro e w5 ⟨rfl, hc5⟩; rw [← HMe.out]; have C5 := Lib.hid hc5; clear hc5)
        go_ret2
        have h1 : faultOf ps none = me := by
          rw [← HF.out, HDr.out, ← HMe.out, if_neg HM0.out]
        have h2 : textB ps = ([], me) := by unfold textB; rw [h1, if_neg HM0.out]
        rw [h2]
        exact ⟨rfl, HCh.out.trans C5.out (fun _ f => f.elim)⟩
    · have hkn : k = ps.length := by omega
      subst hkn
      have hcv := HRow.out.sees.conv
      have HT : Hid (textB ps = (Z, 0)) := Lib.hid (by
        have h1 := HF.out
        rw [List.drop_length] at h1
        have h2 : faultOf ps none = 0 := h1.symm
        unfold textB; rw [if_pos h2, HZ.out, List.take_length])
      clear Hg HRow
      go_wp2_with fail
      go_ret2
      rw [HT.out]
      exact ⟨rfl, HCh.out⟩
end Go.Proofs.YteejkkidnohcfaaGreatDoor
