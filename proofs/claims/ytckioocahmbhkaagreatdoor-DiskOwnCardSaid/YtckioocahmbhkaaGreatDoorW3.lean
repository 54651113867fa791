/- Walks: Clone, full. -/
import Derived.Test.YtckioocahmbhkaaGreatDoorW2
import Derived.WalkSpells
import Derived.Outline
namespace Go.Proofs.YtckioocahmbhkaaGreatDoor
open Go Go.RowKit Go.Maps Go.MuLone

theorem info5 : (Tryz.prog.info? 5).map (fun i => (i.zero, i.size, i.bytes)) = some (some (.int .u8 0), 1, 1) := by kernel_rfl
theorem info27 : (Tryz.prog.info? 47).map (fun i => (i.zero, i.size, i.bytes)) = some (some (.slice none 0 0), 1, 24) := by kernel_rfl
theorem info79 : (Tryz.prog.info? 78).map (fun i => (i.zero, i.size, i.bytes)) = some (some (.agg #[.int .i64 0, .slice none 0 0]), 2, 32) := by kernel_rfl

def reach : Nat := 140737488351232

/-- A slice of bytes that can be read, not empty. -/
def Sees (w : World) (v : Value) (bs : List UInt8) : Prop :=
  ∃ (g o cap : Nat), v = .slice (some ⟨g, o, none⟩) bs.length cap ∧ bs.length ≤ cap ∧ bs.length ≤ reach ∧ ∀ (j : Nat) (x : UInt8), bs[j]? = some x → w.cell? ⟨g, o + j, none⟩ = some (bV x)

theorem oneCell_bVs {bs : List UInt8} : ∀ u ∈ bVs bs, u.oneCell' = true := by
  intro u hu
  simp only [bVs, List.mem_map] at hu
  obtain ⟨x, _, rfl⟩ := hu
  rfl

theorem bVs_get {bs : List UInt8} {j : Nat} {u : Value} (h : (bVs bs)[j]? = some u) : ∃ x, bs[j]? = some x ∧ u = bV x := by
  simp only [bVs, List.getElem?_map, Option.map_eq_some_iff] at h
  obtain ⟨x, h1, h2⟩ := h
  exact ⟨x, h1, h2.symm⟩

set_option maxRecDepth 100000 in
theorem clone_any (w : World) (v : Value) (bs : List UInt8) (h : Sees w v bs) (hne : bs ≠ []) :
    Calls Tryz.prog 25 #[v] w fun e w' => ∃ g cap, e = .returned (.slice (some ⟨g, 0, none⟩) bs.length cap) ∧ w.heap.size ≤ g ∧ w'.ownsRow 0 5 1 (.slice (some ⟨g, 0, none⟩) bs.length cap) bs.length (bVs bs) ∧ Chg (fun _ => False) w w' := by
  obtain ⟨g, o, cap, rfl, hn, hcap, hc⟩ := h
  obtain ⟨i0, hi, hz0, hz1, hz2⟩ := info_parts info5
  have hpos : 0 < bs.length := List.length_pos_iff.2 hne
  have Hc := Lib.hid hc
  have hq := fun (w : World) => Lib.run_eql_slice_nil (P := Tryz.prog) w 47 5 (some ⟨g, o, none⟩) bs.length cap 0 0 Tryz.underlying47
  have Hne := Lib.hid hne
  clear hc hne
  go_enter Tryz.func25, Tryz.ntmps25
  go_wp2_with (at_builtin; refine wpList_append_own_at _ rfl _ _ 47 rfl 0 5 i0 (.int .u8 0) 1 1 Tryz.underlying47 hi hz0 hz1 hz2 rfl (by decide) _ 0 [] rfl (World.ownsRow_lit (base := 0) (e := 5) (size := 1) w #[] 0 (Nat.zero_le _) (Nat.zero_le _) rfl) ⟨g, o, none⟩ bs.length cap (bVs bs) rfl ?c1 ?c2 oneCell_bVs ?c3 ?c4 (Nat.zero_le _) ?c5)
  case c1 => simp [bVs_length]
  case c2 =>
    intro j u hu
    obtain ⟨x, hx, rfl⟩ := bVs_get hu
    have := Hc.out j x hx
    rw [show (⟨g, o, none⟩ : Addr).add j = ⟨g, o + j, none⟩ by simp [Addr.add], World.cell?_alloc_past _ _ _ (World.block_lt_of_cell? _ _ this)]
    exact this
  case c3 => unfold reach at hcap; unfold maxLen; omega
  case c4 => unfold reach at hcap; omega
  case c5 =>
    intro v' w1 hown hg hnil hat
    obtain ⟨g', cap', rfl, hge⟩ : ∃ g' cap', v' = .slice (some ⟨g', 0, none⟩) bs.length cap' ∧ w.heap.size ≤ g' := by
      rcases hown.2 with ⟨_, h⟩ | ⟨g', cap', _, h, _⟩
      · omega
      · refine ⟨g', cap', h, ?_⟩
        subst h
        rcases hat with h | h
        · simp [Value.ownBlock] at h; omega
        · simp [Value.ownBlock] at h; omega
    have Hg := Lib.hid hg
    have Hown := Lib.hid hown
    clear hg hown hnil hat
    go_wp2
    go_ret
    refine ⟨g', cap', by simp, hge, by simpa using Hown.out, ?_⟩
    exact ((Chg.refl _ w).alloc _).grown Hg.out (fun k h => by simp [Value.ownBlock] at h; omega)

end Go.Proofs.YtckioocahmbhkaaGreatDoor
