/- Walks: Op.page, small; the pair. -/
import Derived.Test.YtckioocahmbhkaaP3
namespace Go.Proofs.Ytckioocahmbhkaa
open Go Go.RowKit Go.Maps Go.MuLone

/-- One call of a script. -/
structure OpD where
  kind : Int
  i : Int
  at' : Int
  x : Int
  fill : UInt8
  data : List UInt8
  fates : List (Int × Int)
def OpD.pageK (o : OpD) (k : Nat) : List UInt8 := o.data.take k ++ (rep 4096 o.fill).drop k
def OpD.page (o : OpD) : List UInt8 := o.pageK (min o.data.length 4096)
theorem OpD.pageK_length (o : OpD) (k : Nat) (h1 : k ≤ o.data.length) (h2 : k ≤ 4096) : (o.pageK k).length = 4096 := by
  unfold OpD.pageK; rw [List.length_append, List.length_take, List.length_drop, rep_length]; omega
theorem OpD.page_length (o : OpD) : o.page.length = 4096 := o.pageK_length _ (by omega) (by omega)
theorem OpD.pageK_set (o : OpD) (k : Nat) (y : UInt8) (h1 : o.data[k]? = some y) (h2 : k < 4096) : (o.pageK k).set k y = o.pageK (k + 1) := by
  have hl := (List.getElem?_eq_some_iff.1 h1).1
  unfold OpD.pageK
  have e : (rep 4096 o.fill).drop k = (rep 4096 o.fill)[k]'(by rw [rep_length]; exact h2) :: (rep 4096 o.fill).drop (k + 1) := List.drop_eq_getElem_cons (by rw [rep_length]; exact h2)
  have e2 : (o.data.take k).length = k := by rw [List.length_take]; omega
  rw [e, List.set_append_right _ _ (by omega), e2, Nat.sub_self, List.set_cons_zero, List.take_add_one, h1, List.append_assoc]; rfl
def opV (o : OpD) (dv fv : Value) : Value := .agg #[.int .i64 o.kind, .int .i64 o.i, .int .i64 o.at', .int .i64 o.x, .int .u8 o.fill.toNat, dv, fv]

set_option maxRecDepth 100000 in
theorem page_any (w : World) (o : OpD) (dv fv : Value) (hd : SeesB w dv o.data) :
    Calls Try.prog 42 #[opV o dv fv] w fun e w' => ∃ g, e = .returned (.slice (some ⟨g, 0, none⟩) 4096 4096) ∧ w'.ownsRow 0 5 1 (.slice (some ⟨g, 0, none⟩) 4096 4096) 4096 (bVs o.page) ∧ Chg (fun _ => False) w w' ∧ w.heap.size ≤ g := by
  have HD := Lib.hid hd
  obtain ⟨da, dc, rfl, hn, _⟩ := hd
  have Hn := Lib.hid hn
  clear hn
  unfold opV
  go_enter Try.func42, Try.ntmps42
  go_wp2_with (go_at_call 11; refine (full_lit _ o.fill _ rfl).mono ?_; rintro e w1 ⟨rfl, r1, c1, l1⟩; have R1 := Lib.hid r1; have C1 := Lib.hid c1; have L1 := Lib.hid l1; clear r1 c1 l1)
  obtain ⟨w0', hw0⟩ : ∃ w0', w0' = w.alloc (.cells #[.int .i64 o.kind, .int .i64 o.i, .int .i64 o.at', .int .i64 o.x, .int .u8 o.fill.toNat, .slice da o.data.length dc, fv] 66) := ⟨_, rfl⟩
  have hb1 := heap_alloc_new w (.cells #[.int .i64 o.kind, .int .i64 o.i, .int .i64 o.at', .int .i64 o.x, .int .u8 o.fill.toNat, .slice da o.data.length dc, fv] 66)
  have hc0 : Chg (fun _ => False) w w0' := by rw [hw0]; exact (Chg.refl (fun _ => False) w).alloc _
  rw [← hw0] at R1 C1 L1 hb1
  have hBB : w0'.heap.size = w.heap.size + 1 := by rw [hw0]; exact Array.size_push _
  obtain ⟨B, hB⟩ : ∃ B, B = w.heap.size + 1 := ⟨_, rfl⟩
  rw [hBB, ← hB] at R1 L1
  rw [← hB] at hBB ⊢
  have HB1 := Lib.hid hb1
  have HBB := Lib.hid hBB
  have HB := Lib.hid hB
  have HC0 := Lib.hid hc0
  clear hb1 hc0 hw0 hB hBB
  go_loopg [4] (4096 : Nat) (fun gm iv wr => ∃ k : Nat, k ≤ 4096 ∧ k ≤ o.data.length ∧ gm = 4096 - k ∧ iv = .int .i64 k ∧ wr.ownsRow 0 5 1 (.slice (some ⟨B, 0, none⟩) 4096 4096) 4096 (bVs (o.pageK k)) ∧ Chg (fun _ => False) w0' wr)
  case atStart => exact ⟨0, by omega, by omega, by omega, rfl, R1.out, C1.out⟩
  case round =>
    obtain ⟨k, hk, hkl, hg, rfl, hrow, hc⟩ := hrel
    have Hg := Lib.hid hg
    have Hrow := Lib.hid hrow
    have Hc := Lib.hid hc
    have HCC := Lib.hid (HC0.out.trans hc (fun _ f => f.elim))
    have c5 : wr.cell? ⟨w.heap.size, 5, none⟩ = some (.slice da o.data.length dc) := by simp [World.cell?, hc.get HB1.out (fun f => f)]
    clear hg hrow hc
    by_cases hlt : k < 4096
    · by_cases hlt2 : k < o.data.length
      · obtain ⟨y, hy⟩ : ∃ y, o.data[k]? = some y := ⟨_, List.getElem?_eq_getElem hlt2⟩
        have hcell := Hrow.out.cellAt k (by omega)
        obtain ⟨u0, hcell2⟩ : ∃ u, wr.cell? ⟨B, k, none⟩ = some u := ⟨_, by rw [hcell]; exact List.getElem?_eq_getElem (by rw [bVs_length, OpD.pageK_length _ _ hkl hk]; omega)⟩
        have hfz : wr.frozen? ⟨B, k, none⟩ = false := Hrow.out.frozenAt k
        obtain ⟨a, c, e, hne, hs⟩ := (HD.out.none HCC.out)
        cases e
        cases da with
        | none => have := Hn.out rfl; rw [this] at hlt2; simp at hlt2
        | some ad =>
          have hcy := hs ad rfl k y hy
          unfold bV at hcy
          have HY := Lib.hid hy
          clear hcell hne hs hy
          go_wp2_with fail
          go_roundg (4096 - (k + 1))
          case measure => have := Hg.out; omega
          case rel =>
            refine ⟨k + 1, by omega, by omega, rfl, by go_num, ?_, Hc.out.setCell (.inr (by show _ ≤ B; rw [HBB.out]; exact Nat.le_refl _)) _⟩
            have := ownsRow_setCell Hrow.out k (bV y) (by rw [bVs_length, OpD.pageK_length _ _ hkl hk]; omega)
            rw [← bVs_set, OpD.pageK_set _ _ _ HY.out hlt] at this
            exact this
      · obtain rfl : k = o.data.length := by omega
        have HP : Hid (o.page = o.pageK o.data.length) := Lib.hid (by unfold OpD.page; rw [Nat.min_eq_left (by omega)])
        go_wp2_with fail
        go_ret
        exact ⟨B, rfl, by rw [HP.out]; exact Hrow.out, HCC.out, by rw [HB.out]; omega⟩
    · obtain rfl : k = 4096 := by omega
      have HP : Hid (o.page = o.pageK 4096) := Lib.hid (by unfold OpD.page; rw [Nat.min_eq_right (by omega)])
      go_wp2_with fail
      go_ret
      exact ⟨B, rfl, by rw [HP.out]; exact Hrow.out, HCC.out, by rw [HB.out]; omega⟩

/-- A script's calls as they lie. -/
def OpsA (w : World) (v : Value) (os : List OpD) : Prop :=
  ∃ a cap, v = .slice a os.length cap ∧ (0 < os.length → ∃ g off, a = some ⟨g, off, none⟩ ∧ ∀ (i : Nat) (o : OpD), os[i]? = some o → ∃ dv fv,
    w.cell? ⟨g, off + i * 7, none⟩ = some (.int .i64 o.kind) ∧ w.cell? ⟨g, off + i * 7 + 1, none⟩ = some (.int .i64 o.i) ∧ w.cell? ⟨g, off + i * 7 + 2, none⟩ = some (.int .i64 o.at') ∧ w.cell? ⟨g, off + i * 7 + 3, none⟩ = some (.int .i64 o.x) ∧
    w.cell? ⟨g, off + i * 7 + 4, none⟩ = some (.int .u8 o.fill.toNat) ∧ w.cell? ⟨g, off + i * 7 + 5, none⟩ = some dv ∧ w.cell? ⟨g, off + i * 7 + 6, none⟩ = some fv ∧ SeesB w dv o.data ∧ FatesA w fv o.fates ∧ o.i ≤ 9223372036854775807)

def mostK : List OpD → Nat := fun os => os.foldl (fun n o => max n o.data.length) 0
theorem mostK_snoc (os : List OpD) (k : Nat) (o : OpD) (h : os[k]? = some o) : mostK (os.take (k + 1)) = max (mostK (os.take k)) o.data.length := by
  unfold mostK
  rw [List.take_add_one, h, List.foldl_append]; rfl

set_option maxRecDepth 100000 in
theorem small_any (w : World) (v : Value) (os : List OpD) (h : OpsA w v os) :
    Calls Try.prog 27 #[v] w fun e w' => e = .returned (.bool (decide (mostK (os.take 200) ≤ 10000))) ∧ w = w' := by
  obtain ⟨a, cap, rfl, h1⟩ := h
  have H1 := Lib.hid h1
  clear h1
  go_enter Try.func27, Try.ntmps27
  go_wp2_with fail
  go_loopg [3, 4] 200 (fun gm nv iv wr => ∃ k : Nat, k ≤ 200 ∧ k ≤ os.length ∧ gm = 200 - k ∧ iv = .int .i64 k ∧ nv = .int .i64 (mostK (os.take k) : Nat) ∧ w = wr)
  case atStart => exact ⟨0, by omega, by omega, rfl, rfl, rfl, rfl⟩
  case round =>
    obtain ⟨k, hk, hkl, hg, rfl, rfl, rfl⟩ := hrel
    have Hg := Lib.hid hg
    clear hg
    by_cases hlt : k < os.length
    · by_cases hlt2 : k < 200
      · obtain ⟨o, ho⟩ : ∃ o, os[k]? = some o := ⟨_, List.getElem?_eq_getElem hlt⟩
        obtain ⟨g, off, rfl, hc⟩ := H1.out (by omega)
        obtain ⟨dv, fv, _, _, _, _, _, c5, _, hs, _, _⟩ := hc k o ho
        obtain ⟨da, dc, rfl, _, _⟩ := hs
        have HM := Lib.hid (mostK_snoc os k o ho)
        obtain ⟨M, hM⟩ : ∃ M, M = mostK (os.take k) := ⟨_, rfl⟩
        rw [← hM] at HM ⊢
        clear hc ho
        go_wp2_with fail
        all_goals
          go_roundg (200 - (k + 1))
          case measure => have := Hg.out; omega
          case rel =>
            refine ⟨k + 1, by omega, by omega, rfl, by go_num, ?_, rfl⟩
            rw [HM.out]
            first
              | (rw [show max M o.data.length = M by omega, hM])
              | (rw [show max M o.data.length = o.data.length by omega])
      · obtain rfl : k = 200 := by omega
        go_wp2_with fail
        go_ret
        exact ⟨congrArg (fun b => Ending.returned (Value.bool b)) (decide_eq_decide.2 (by omega)), rfl⟩
    · have HT : Hid (os.take 200 = os.take k) := Lib.hid (by rw [List.take_of_length_le (by omega), List.take_of_length_le (by omega)])
      go_wp2_with fail
      go_ret
      rw [HT.out]
      exact ⟨congrArg (fun b => Ending.returned (Value.bool b)) (decide_eq_decide.2 (by omega)), rfl⟩
end Go.Proofs.Ytckioocahmbhkaa
