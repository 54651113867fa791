/- Walks: Text. -/
import Derived.Test.YteejkkidnohcfaaGreatDoorW7
import Derived.Test.YteejkkidnohcfaaGreatDoorW8
import Derived.Lib.OthersKept
import Derived.Deep.RegionHeld3
namespace Go.Proofs.YteejkkidnohcfaaGreatDoor
open Go Go.RowKit Go.Maps

theorem builder_chg {T e : TypeId} {B b : Nat} {bs : List Value} {w w' : World} (h : Lib.IsBuilderF T e B b bs w) (hc : Chg (fun _ => False) w w') : Lib.IsBuilderF T e B b bs w' := by
  have key : ∀ p, Lib.BuilderAtF T e B b p bs w → Lib.BuilderAtF T e B b p bs w' := by
    rintro p ⟨hB, v, hb, hown, hne⟩
    refine ⟨hB, v, hc.get hb (fun f => f), hown.kept (hc.grownBy none) ?_, hne⟩
    cases e2 : v.ownBlock with
    | none => exact .inl rfl
    | some g => exact .inr (by simp)
  exact h.imp (key _) (key _)
theorem others_get {e : TypeId} {b : Nat} {w w' : World} (h : Lib.OthersKept e (some b) w w') {k : Nat} {cs : Array Value} {T : TypeId} {fz : Nat × Nat} (hk : w.heap[k]? = some (.cells cs T fz)) (hb : k ≠ b) (hT : T ≠ e) : w'.heap[k]? = some (.cells cs T fz) :=
  h k _ hk (fun e2 => hb (Option.some.inj e2)) (fun c f e2 => hT (by cases e2; rfl))
theorem strCells_bVs (l : Bytes) : Lib.strCells ⟨l.toArray⟩ = bVs l := rfl
theorem strCells_app (a b : ByteArray) : Lib.strCells (a ++ b) = Lib.strCells a ++ Lib.strCells b := by
  simp [Lib.strCells, ByteArray.data_append]
theorem bVs_append (a b : Bytes) : bVs (a ++ b) = bVs a ++ bVs b := by simp [bVs]
theorem add_add (ad : Addr) (i j : Nat) : (ad.add i).add j = ad.add (i + j) := by
  unfold Addr.add
  by_cases hi : i = 0
  · subst hi; simp
  · by_cases hj : j = 0
    · subst hj; simp [hi]
    · simp [hi, hj]; omega
/-- Sizes: no pair is large, the lines are not too many. -/
structure SmallP (ps : List PairB) : Prop where
  key : ∀ p ∈ ps, p.1.length ≤ 16777216 ∧ p.2.length ≤ 16777216
  len : ps.length ≤ 16777216
  sum : (linesOf ps).length ≤ 1073741824
theorem linesOf_take_le (ps : List PairB) (k : Nat) : (linesOf (ps.take k)).length ≤ (linesOf ps).length := by
  conv => rhs; rw [← List.take_append_drop k ps]
  rw [linesOf, linesOf, List.flatMap_append, List.length_append]; omega
theorem fault_drop {ps : List PairB} {k : Nat} {p : PairB} (h : ps[k]? = some p) (last : Option Bytes) : faultOf (ps.drop k) last = if mayB p.1 p.2 last = 0 then faultOf (ps.drop (k + 1)) (some p.1) else mayB p.1 p.2 last := by
  obtain ⟨hlt, e⟩ := List.getElem?_eq_some_iff.1 h
  rw [List.drop_eq_getElem_cons hlt, e]
  rfl
/-- The key ahead of the k-th pair. -/
def lastK (ps : List PairB) (k : Nat) : Option Bytes := if k = 0 then none else (ps[k - 1]?).map (·.1)

set_option maxRecDepth 100000 in
set_option maxHeartbeats 8000000 in
theorem text_any (w : World) (hE : Env w) (v : Value) (ps : List PairB) (h : SeesP w v ps) (hs : SmallP ps) :
    Calls Tryz.prog 15 #[v] w fun e w' => e = .returned (.tuple #[.string ⟨(textB ps).1.toArray⟩, .int .i64 (textB ps).2]) ∧ Chg (fun _ => False) w w' := by
  have HE := Lib.hid hE
  have HS := Lib.hid hs
  have HP := Lib.hid h
  obtain ⟨a, cap, rfl, hn, hc⟩ := h
  have Hn := Lib.hid hn
  have Hc := Lib.hid hc
  have hln := hs.len
  obtain ⟨B, hB⟩ : ∃ B, B = w.heap.size := ⟨_, rfl⟩
  have HB := Lib.hid hB
  obtain ⟨N, hN⟩ : ∃ N : ByteArray, N = ⟨(Lib.itoa (ps.length : Int)).toArray⟩ := ⟨_, rfl⟩
  have HN := Lib.hid hN
  have hNs : N.size ≤ 10 := by
    have h1 := decB_length 9 ps.length (by omega)
    rw [hN, itoa_lib]; exact h1
  clear hE hn hc hs hB hN
  have HC0 : Hid (Chg (fun _ => False) w (w.alloc (.cells #[.pointer none, .slice none 0 0] 75))) := Lib.hid ((Chg.refl _ w).alloc _)
  go_enter Tryz.func15, Tryz.ntmps15
  go_wp2_with (go_at_call 32; refine (itoa_any _ (HE.out.chg0 HC0.out) _ (by omega) (by omega)).mono ?_; rintro e w1 ⟨rfl, hc1⟩; rw [← HN.out]; have HC1 := Lib.hid hc1; clear hc1)
  have HI1 : Hid (Lib.IsBuilderF 75 5 B w.heap.size (bVs []) w1) := Lib.hid (builder_chg (Lib.IsBuilderF.of (.inl ⟨by rw [HB.out]; exact Nat.le_refl _, _, heap_alloc_new w _, World.ownsRow_nil _ _ _ _, by simp [Value.ownBlock]⟩)) HC1.out)
  have HBl1 : Hid (Below B w w1) := Lib.hid ((HC0.out.trans HC1.out (fun _ f => f.elim)).toBelow (fun _ f => f.elim) |> fun h => by rw [HB.out]; exact h)
  refine (Tryz.Builder_WriteString_k B w.heap.size _ _ _ HI1.out (by rw [ByteArray.size_append, ByteArray.size_append, show (ByteArray.mk #[99, 111, 112, 112, 105, 99, 101, 32]).size = 8 from rfl, show (ByteArray.mk #[10]).size = 1 from rfl, bVs_length, List.length_nil]; omega) (by rw [HB.out]; exact HBl1.out.size)).mono ?_
  rintro e w2 ⟨rfl, hb2, hbl2, _⟩
  have HI2 : Hid (Lib.IsBuilderF 75 5 B w.heap.size (bVs (headOf ps.length ++ linesOf (ps.take 0))) w2) := Lib.hid (.inr (by
    have e2 : bVs [] ++ Lib.strCells ((⟨#[99, 111, 112, 112, 105, 99, 101, 32]⟩ : ByteArray) ++ N ++ ⟨#[10]⟩) = bVs (headOf ps.length ++ linesOf (ps.take 0)) := by
      rw [strCells_app, strCells_app, HN.out, itoa_lib, strCells_bVs]
      simp [headOf, word, linesOf, bVs, bV, Lib.strCells]
    rw [← e2]; exact hb2))
  have HBl2 := Lib.hid (HBl1.out.trans hbl2)
  clear hb2 hbl2 HC1 HC0
  go_wp2_with fail
  go_loopg [5, 6, 7, 8, 17] ps.length (fun gm lv _ _ _ iv wr => ∃ (k : Nat), k ≤ ps.length ∧ gm = ps.length - k ∧ iv = .int .i64 k ∧ faultOf (ps.drop k) (lastK ps k) = faultOf ps none ∧ LastIs w lv (decide (k = 0)) (lastK ps k) ∧ Lib.IsBuilderF 75 5 B w.heap.size (bVs (headOf ps.length ++ linesOf (ps.take k))) wr ∧ Below B w wr)
  case atStart => exact ⟨0, by omega, rfl, rfl, rfl, ⟨rfl, none, 0, 0, rfl⟩, HI2.out, HBl2.out⟩
  case round =>
    obtain ⟨k, hk, hg, rfl, hf, hl, hi, hbl⟩ := hrel
    have Hg := Lib.hid hg
    have HF := Lib.hid hf
    have HL := Lib.hid hl
    have HI := Lib.hid hi
    have HBl := Lib.hid hbl
    obtain ⟨la, lnn, lc, rfl⟩ := hl.slice
    have hCw : Chg (fun x => B ≤ x) w wr := ⟨hbl.os, hbl.tape, hbl.output, hbl.size, fun x hx hn => hbl.block x (by omega)⟩
    clear hg hf hl hi hbl
    by_cases hlt : k < ps.length
    · obtain ⟨p, hp⟩ : ∃ p, ps[k]? = some p := ⟨_, List.getElem?_eq_getElem hlt⟩
      cases a with
      | none => have := Hn.out rfl; subst this; simp at hlt
      | some ad =>
        obtain ⟨kv, uv, ck, cu, sk, su⟩ := Hc.out ad rfl k p hp
        have HEr : Hid (Env wr) := Lib.hid (HE.out.chg hCw (fun x hx => by have := HE.out.lt; have := HB.out; omega))
        have hadB : ad.block < B := by
          have := World.block_lt_of_cell? _ _ ck
          rw [block_add] at this
          rw [HB.out]; exact this
        have ck' : wr.cell? (ad.add (k * 2)) = some kv := below_cell HBl.out ck (by rw [block_add]; exact hadB)
        have cu' : wr.cell? ⟨(ad.add (k * 2)).block, (ad.add (k * 2)).off + 1, none⟩ = some uv := by
          have h1 : wr.cell? ((ad.add (k * 2)).add 1) = some uv := by rw [add_add]; exact below_cell HBl.out cu (by rw [block_add]; exact hadB)
          exact h1
        have SK : Hid (SeesB wr kv p.1) := Lib.hid (sk.chg hCw (fun ad' m c e hl => by have := sk.lt ad' m c e hl; have := HB.out; omega))
        have SU : Hid (SeesB wr uv p.2) := Lib.hid (su.chg hCw (fun ad' m c e hl => by have := su.lt ad' m c e hl; have := HB.out; omega))
        have HL2 : Hid (LastIs wr (.slice la lnn lc) ((k : Int) == 0) (lastK ps k)) := Lib.hid (by
          have e1 : ((k : Int) == 0) = decide (k = 0) := by
            rw [Bool.eq_iff_iff, beq_iff_eq, decide_eq_true_eq]; omega
          rw [e1]
          have := HL.out
          cases hq : lastK ps k with
          | none => rw [hq] at this; exact this
          | some m =>
            rw [hq] at this
            exact ⟨this.1, this.2.chg hCw (fun ad' m c e hl => by have := this.2.lt ad' m c e hl; have := HB.out; omega)⟩)
        have HSm : Hid (p.1.length ≤ 16777216 ∧ p.2.length ≤ 16777216) := Lib.hid (HS.out.key p (List.mem_of_getElem? hp))
        have HD := Lib.hid (fault_drop hp (lastK ps k))
        have HPk := Lib.hid hp
        obtain ⟨ka, kc, rfl, _, _⟩ := sk
        obtain ⟨ua, uc, rfl, _, _⟩ := su
        have hki : (k : Int) < (ps.length : Int) := by omega
        have hk0 : (0 : Int) ≤ (k : Int) := by omega
        have CA : Hid (Chg (fun _ => False) wr (wr.alloc (.cells #[.slice ka p.1.length kc, .slice ua p.2.length uc] 54))) := Lib.hid ((Chg.refl _ wr).alloc _)
        obtain ⟨me, hme⟩ : ∃ me, me = mayB p.1 p.2 (lastK ps k) := ⟨_, rfl⟩
        have HMe := Lib.hid hme
        have HCk := Lib.hid ck'
        clear ck cu hp hme hCw
        by_cases hm0 : me = 0
        · subst hm0
          obtain ⟨X, hX⟩ : ∃ X : ByteArray, X = ⟨(hexB p.1).toArray⟩ := ⟨_, rfl⟩
          obtain ⟨Y, hY⟩ : ∃ Y : ByteArray, Y = ⟨(hexB p.2).toArray⟩ := ⟨_, rfl⟩
          have hXs : X.size ≤ 33554433 := by
            have h1 := hexB_length p.1
            have h2 : X.size = (hexB p.1).length := by rw [hX]; rfl
            have := HSm.out.1; omega
          have hYs : Y.size ≤ 33554433 := by
            have h1 := hexB_length p.2
            have h2 : Y.size = (hexB p.2).length := by rw [hY]; rfl
            have := HSm.out.2; omega
          have HX := Lib.hid hX
          have HY := Lib.hid hY
          have HLn : Hid ((linesOf (ps.take k)).length ≤ 1073741824) := Lib.hid (Nat.le_trans (linesOf_take_le ps k) HS.out.sum)
          have HHd : Hid ((headOf ps.length).length ≤ 100) := Lib.hid (by
            have h1 := decB_length 9 ps.length (by omega)
            simp [headOf, word]; omega)
          clear hX hY
          go_wp2_with (go_at_call 33; refine (may_any _ _ _ _ p.1 p.2 _ (lastK ps k) (SK.out.chg0 CA.out) (SU.out.chg0 CA.out) (HL2.out.chg0 CA.out) (by have := HSm.out.1; omega) (by have := HSm.out.2; omega)).mono ?_; rintro e w5 ⟨rfl, hc5⟩; rw [← HMe.out]; have C5 := Lib.hid (CA.out.trans hc5 (fun _ f => f.elim)); have hp5 := hc5.get (heap_alloc_new wr _) (fun f => f); have HP5 := Lib.hid hp5; have c5k : w5.cell? ⟨wr.heap.size, 0, none⟩ = some (.slice ka p.1.length kc) := (by rw [Lib.cell_of_heap hp5]; rfl); have c5u : w5.cell? ⟨wr.heap.size, 1, none⟩ = some (.slice ua p.2.length uc) := (by rw [Lib.cell_of_heap hp5]; rfl); clear hc5 hp5)
          have HI5 : Hid (Lib.IsBuilderF 75 5 B w.heap.size (bVs (headOf ps.length ++ linesOf (ps.take k))) w5) := Lib.hid (builder_chg HI.out C5.out)
          have hpb : wr.heap.size ≠ w.heap.size := by
            have h1 : w.heap.size < wr.heap.size := by
              have h2 := HI.out
              rcases h2 with ⟨_, v, hb, _⟩ | ⟨_, v, hb, _⟩ <;> exact heap_lt hb
            omega
          have HPb := Lib.hid hpb
          clear hpb
          have q1 : ¬ (9223372036854775807 : Nat) < X.size + 1 := by omega
          have q2 : ¬ (9223372036854775807 : Nat) < X.size + 1 + Y.size := by omega
          have q3 : ¬ (9223372036854775807 : Nat) < X.size + 1 + Y.size + 1 := by omega
          go_region_held3 (fun w' => w'.cell? ⟨wr.heap.size, 0, none⟩ = some (.slice ka p.1.length kc) ∧ w'.cell? ⟨wr.heap.size, 1, none⟩ = some (.slice ua p.2.length uc))
            (first
              | exact kx6
              | exact kx7
              | exact kx8
              | go_keep)
            (first
              | (go_simp; go_at_call 16; refine (hex_any _ (.slice ua p.2.length uc) p.2 (SU.out.chg0 C6.out) (by have := HSm.out.2; omega)).mono ?_; rintro e w7 ⟨rfl, hc7⟩; rw [← HY.out]; have C7 := Lib.hid (C6.out.trans hc7 (fun _ f => f.elim)); have hp7 := hc7.get HP6.out (fun f => f); have HP7 := Lib.hid hp7; have kx7 : w7.cell? ⟨wr.heap.size, 0, none⟩ = some (.slice ka p.1.length kc) ∧ w7.cell? ⟨wr.heap.size, 1, none⟩ = some (.slice ua p.2.length uc) := ⟨by rw [Lib.cell_of_heap hp7]; rfl, by rw [Lib.cell_of_heap hp7]; rfl⟩; clear hc7 hp7)
              | (go_simp; go_at_call 16; refine (hex_any _ (.slice ka p.1.length kc) p.1 (SK.out.chg0 C5.out.drew) (by have := HSm.out.1; omega)).mono ?_; rintro e w6 ⟨rfl, hc6⟩; rw [← HX.out]; have C6 := Lib.hid (C5.out.drew.trans hc6 (fun _ f => f.elim)); have hp6 := hc6.get HP5.out (fun f => f); have HP6 := Lib.hid hp6; have kx6 : w6.cell? ⟨wr.heap.size, 0, none⟩ = some (.slice ka p.1.length kc) ∧ w6.cell? ⟨wr.heap.size, 1, none⟩ = some (.slice ua p.2.length uc) := ⟨by rw [Lib.cell_of_heap hp6]; rfl, by rw [Lib.cell_of_heap hp6]; rfl⟩; clear hc6 hp6)
              | (go_simp; go_at_call 31; refine (Tryz.Builder_WriteString_k B w.heap.size (bVs (headOf ps.length ++ linesOf (ps.take k))) _ _ (builder_chg HI.out C7.out) (by rw [ByteArray.size_append, ByteArray.size_append, ByteArray.size_append, show (ByteArray.mk #[32]).size = 1 from rfl, show (ByteArray.mk #[10]).size = 1 from rfl, bVs_length, List.length_append]; have := HLn.out; have := HHd.out; omega) (by have h1 := HBl.out.size; have h2 := C7.out.size; rw [HB.out]; omega)).mono ?_; rintro e w8 ⟨rfl, hi8, hbl8, hok8⟩; have hp8 := others_get hok8 HP7.out HPb.out (by decide); have HI8 := Lib.hid hi8; have HB8 := Lib.hid hbl8; have HP8 := Lib.hid hp8; have kx8 : w8.cell? ⟨wr.heap.size, 0, none⟩ = some (.slice ka p.1.length kc) ∧ w8.cell? ⟨wr.heap.size, 1, none⟩ = some (.slice ua p.2.length uc) := ⟨by rw [Lib.cell_of_heap hp8]; rfl, by rw [Lib.cell_of_heap hp8]; rfl⟩; clear hi8 hbl8 hp8 hok8))
          all_goals
            have k8 := kx8.1
            have KX := Lib.hid kx8
            clear kx8 kx7 kx6 c5k c5u q1 q2 q3 ck' cu'
            go_wp2_with fail
            go_roundg (ps.length - (k + 1))
            case measure => have := Hg.out; omega
            case rel =>
              have CW : Chg (fun _ => False) wr w7 := C7.out
              have BW : Below B w w8 := (HBl.out.trans (by
                have h1 := CW.toBelow (fun _ f => f.elim)
                exact ⟨h1.os, h1.tape, h1.output, h1.size, fun x hx => h1.block x (by have := HBl.out.size; have := HB.out; omega)⟩)).trans HB8.out
              refine ⟨k + 1, by omega, rfl, by go_num, ?_, ?_, .inr ?_, BW⟩
              · rw [← HF.out, HD.out, ← HMe.out, if_pos rfl]
                congr 1
                unfold lastK
                rw [if_neg (by omega), Nat.add_sub_cancel, HPk.out]; rfl
              · have e1 : lastK ps (k + 1) = some p.1 := by
                  unfold lastK; rw [if_neg (by omega), Nat.add_sub_cancel, HPk.out]; rfl
                rw [e1]
                refine ⟨by rw [decide_eq_false_iff_not]; omega, ?_⟩
                obtain ⟨k2, u2', ck2, _, sk2, _⟩ := Hc.out ad rfl k p HPk.out
                have e2 : k2 = .slice ka p.1.length kc := by
                  have h1 := below_cell HBl.out ck2 (by rw [block_add]; exact hadB)
                  have h2 := SK.out
                  exact Option.some.inj (h1.symm.trans (HCk.out))
                rw [← e2]; exact sk2
              · have h1 := HI8.out
                rw [strCells_app, strCells_app, strCells_app, HX.out, HY.out, strCells_bVs, strCells_bVs] at h1
                have e3 : bVs (headOf ps.length ++ linesOf (ps.take (k + 1))) = bVs (headOf ps.length ++ linesOf (ps.take k)) ++ (bVs (hexB p.1) ++ Lib.strCells ⟨#[32]⟩ ++ bVs (hexB p.2) ++ Lib.strCells ⟨#[10]⟩) := by
                  rw [take_snoc HPk.out, linesOf_snoc]
                  simp [lineOf, bVs, bV, Lib.strCells]
                rw [e3]; exact h1
        · have hm1 : (me == 0) = false := by rw [beq_eq_false_iff_ne]; exact hm0
          have HM0 := Lib.hid hm0
          clear hm0
          go_wp2_with (go_at_call 33; refine (may_any _ _ _ _ p.1 p.2 _ (lastK ps k) (SK.out.chg0 CA.out) (SU.out.chg0 CA.out) (HL2.out.chg0 CA.out) (by have := HSm.out.1; omega) (by have := HSm.out.2; omega)).mono ?_; rintro e w5 ⟨rfl, hc5⟩; rw [← HMe.out]; have C5 := Lib.hid hc5; clear hc5)
          go_ret2
          have h1 : faultOf ps none = me := by
            rw [← HF.out, HD.out, ← HMe.out, if_neg HM0.out]
          have h2 : textB ps = ([], me) := by unfold textB; rw [h1, if_neg HM0.out]
          rw [h2]
          exact ⟨rfl, (chg_below (by have := HBl.out; rw [HB.out] at this; exact this)).trans ((CA.out).trans C5.out (fun _ f => f.elim)) (fun _ f => f.elim)⟩
    · have hkn : k = ps.length := by omega
      subst hkn
      have HI' : Hid (Lib.IsBuilderF 75 5 B w.heap.size (Lib.byteCells (headOf ps.length ++ linesOf ps)) wr) := Lib.hid (by have := HI.out; rw [List.take_length] at this; exact this)
      have HT : Hid (textB ps = (headOf ps.length ++ linesOf ps, 0)) := Lib.hid (by
        have h1 := HF.out
        rw [List.drop_length] at h1
        have h2 : faultOf ps none = 0 := h1.symm
        unfold textB; rw [if_pos h2])
      clear Hg HI
      go_wp2_with (go_at_call 34; refine (Tryz.Builder_String_any_k B w.heap.size (headOf ps.length ++ linesOf ps) _ HI'.out (by rw [HB.out]; exact HBl.out.size)).mono ?_; rintro e w9 ⟨rfl, _, hb9, _⟩; have HB9 := Lib.hid (HBl.out.trans hb9); clear hb9)
      go_ret2
      rw [HT.out]
      exact ⟨rfl, chg_below (by have := HB9.out; rw [HB.out] at this; exact this)⟩
end Go.Proofs.YteejkkidnohcfaaGreatDoor
