/- Walks: Fates (a copy of a list of fates). -/
import Derived.Test.YtckioocahmbhkaaLasts
import Derived.Outline
namespace Go.Proofs.Ytckioocahmbhkaa
open Go Go.RowKit Go.Maps Go.MuLone

theorem info49 : (Try.prog.info? 49).map (fun i => (i.zero, i.size, i.bytes)) = some (some (.agg #[.int .i64 0, .int .i64 0]), 2, 16) := by kernel_rfl

def fcells (fs : List (Int × Int)) : List Value := (fs.map fun f => [.int .i64 f.1, .int .i64 f.2]).flatten
theorem fcells_length (fs : List (Int × Int)) : (fcells fs).length = fs.length * 2 := by
  induction fs with
  | nil => rfl
  | cons f fs ih =>
    show ([_, _] ++ fcells fs).length = _
    rw [List.length_append, ih]; simp; omega
theorem fcells_get (fs : List (Int × Int)) (i : Nat) (f : Int × Int) (h : fs[i]? = some f) : (fcells fs)[i * 2]? = some (.int .i64 f.1) ∧ (fcells fs)[i * 2 + 1]? = some (.int .i64 f.2) := by
  induction fs generalizing i with
  | nil => simp at h
  | cons g fs ih =>
    have e : fcells (g :: fs) = .int .i64 g.1 :: .int .i64 g.2 :: fcells fs := rfl
    cases i with
    | zero => simp at h; subst h; simp [e]
    | succ i =>
      have := ih i (by simpa using h)
      rw [e, show (i + 1) * 2 = i * 2 + 2 by omega, show i * 2 + 2 + 1 = (i * 2 + 1) + 2 by omega]
      simpa using this
theorem fcells_snoc (fs : List (Int × Int)) (f : Int × Int) : fcells (fs ++ [f]) = fcells fs ++ [.int .i64 f.1, .int .i64 f.2] := by simp [fcells]

/-- A row that is new since w. -/
def New (w w' : World) (e : TypeId) (sz : Nat) (v : Value) (n : Nat) (xs : List Value) : Prop := w'.ownsRow 0 e sz v n xs ∧ ∀ g, v.ownBlock = some g → w.heap.size ≤ g

set_option maxRecDepth 100000 in
set_option maxHeartbeats 800000 in
theorem fates_any (w : World) (v : Value) (fs : List (Int × Int)) (h : FatesA w v fs) :
    Calls Try.prog 22 #[v] w fun e w' => ∃ a cap, e = .returned (.slice a fs.length cap) ∧ New w w' 49 2 (.slice a fs.length cap) fs.length (fcells fs) ∧ Chg (fun _ => False) w w' := by
  obtain ⟨fa, fc, rfl, hfl, hfg⟩ := h
  obtain ⟨i1, hi', hz0, hz1, hz2⟩ := info_parts info49
  have Hfg := Lib.hid hfg
  obtain ⟨B, hB⟩ : ∃ B, B = w.heap.size := ⟨_, rfl⟩
  have HB := Lib.hid hB
  have hz2' : i1.bytes ≤ 16 := by omega
  clear hfg hB
  go_enter Try.func22, Try.ntmps22
  go_wp2_with (at_make; refine wpList_make_own _ rfl _ _ 45 rfl 0 49 i1 _ 2 Try.underlying45 hi' hz0 hz1 .i64 .i64 _ fs.length rfl rfl (by simp) (by rw [hz2]; omega) (by unfold maxLen; omega) (Nat.zero_le _) ?_; intro w1 hown1 hg1; rw [← HB.out] at hown1 ⊢; have Hown1 := Lib.hid hown1; have Hg1 := Lib.hid hg1; clear hown1 hg1)
  go_loopw [3, 4] (fun v i wr => ∃ (k : Nat) (a : Option Addr) (cap : Nat), k ≤ fs.length ∧ i = .int .i64 k ∧ v = .slice a k cap ∧ wr.ownsRow 0 49 2 (.slice a k cap) k (fcells (fs.take k)) ∧ (∀ g, (Value.slice a k cap).ownBlock = some g → B ≤ g) ∧ Chg (fun _ => False) w wr)
    (fun _ i _ => fs.length - (intOf i).toNat)
  case atStart => exact ⟨0, _, _, Nat.zero_le _, rfl, rfl, Hown1.out, fun g e => by cases e; exact Nat.le_refl _, (Chg.refl _ _).grown Hg1.out (fun k e => by cases e)⟩
  case round =>
    obtain ⟨k, a, cap, hk, rfl, rfl, hrow, hvB, hchg⟩ := hrel
    by_cases hlt : k < fs.length
    · obtain ⟨g, o, rfl, hcells⟩ := Hfg.out (by omega)
      obtain ⟨f, hf⟩ : ∃ f, fs[k]? = some f := ⟨_, List.getElem?_eq_getElem hlt⟩
      obtain ⟨cx0, cy0⟩ := hcells k f hf
      have hgl : g < w.heap.size := World.block_lt_of_cell? _ _ cx0
      have cx : wr.cell? ⟨g, o + k * 2, none⟩ = some (.int .i64 f.1) := (cell_chg hchg hgl (fun f => f)).trans cx0
      have cy : wr.cell? ⟨g, o + k * 2 + 1, none⟩ = some (.int .i64 f.2) := (cell_chg hchg hgl (fun f => f)).trans cy0
      have Hf := Lib.hid hf
      have Hrow := Lib.hid hrow
      have HvB := Lib.hid hvB
      clear hcells hf cx0 cy0 hrow hvB
      go_wp2_with (at_builtin; refine wpList_append_lies _ rfl _ _ _ rfl 0 49 i1 _ 2 16 Try.underlying45 hi' hz0 hz1 hz2 rfl (by omega) (.slice a k cap) k (fcells (fs.take k)) (by rfl) (Hrow.out.alloc _) ⟨wr.heap.size, 0, none⟩ 1 1 [.int .i64 f.1, .int .i64 f.2] (by rfl) (by rfl) (World.news_of_block (cs := #[.int .i64 f.1, .int .i64 f.2]) (t := 49) (fr := (0, 0)) (heap_alloc_new wr _)) (by simp [Value.oneCell']) (by omega) (by unfold maxLen; omega) (by omega) (Nat.zero_le _) (wr.heap.size + 1) (by simp) ?_; intro gg cap' w5 hown5 hgrow5 hat5 hlt5)
      have hB1 : B ≤ wr.heap.size := by rw [HB.out]; exact hchg.size
      have hc5 : Chg (fun _ => False) w w5 := (hchg.alloc _).grown hgrow5 (fun k hk => .inr (by rw [← HB.out]; exact HvB.out k hk))
      have hcat : fcells (fs.take (k + 1)) = fcells (fs.take k) ++ [.int .i64 f.1, .int .i64 f.2] := by rw [List.take_add_one, Hf.out]; exact fcells_snoc _ _
      have Hcat := Lib.hid hcat
      clear hcat
      go_roundw
      case rel =>
        refine ⟨k + 1, _, cap', by omega, by go_num, rfl, by rw [Hcat.out]; exact hown5, fun g e => ?_, hc5⟩
        simp only [Value.ownBlock, Option.some.injEq] at e
        rcases hat5 with e5 | e5
        · exact HvB.out g (by rw [e5, e])
        · omega
      case measure => simp [intOf]; omega
    · have hk2 : k = fs.length := by omega
      subst hk2
      have Hrow := Lib.hid hrow
      have HvB := Lib.hid hvB
      clear hrow hvB
      go_wp2
      go_ret
      refine ⟨a, cap, rfl, ⟨?_, fun g e => by rw [← HB.out]; exact HvB.out g e⟩, hchg⟩
      have := Hrow.out
      rw [List.take_length] at this
      exact this

end Go.Proofs.Ytckioocahmbhkaa
