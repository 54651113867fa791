/- Walks: count, pages, and what is told under the lock. -/
import Derived.Test.YtckioocahmbhkaaGreatDoorDisk
namespace Go.Proofs.YtckioocahmbhkaaGreatDoor
open Go Go.RowKit Go.Maps Go.MuLone

theorem chg1 {w : World} {b o : Nat} (v : Value) : Chg (fun x => x = b) w (w.setCell ⟨b, o, none⟩ v) := (Chg.refl (fun x => x = b) w).setCell (p := ⟨b, o, none⟩) (Or.inl rfl) v

theorem chgS {w w' : World} {b : Nat} (h : Chg (fun x => x = b) w w') (o : Nat) (v : Value) : Chg (fun x => x = b) w (w'.setCell ⟨b, o, none⟩ v) := h.setCell (p := ⟨b, o, none⟩) (Or.inl rfl) v

/-- One cell of the struct is written. -/
theorem DiskF.set {w : World} {own : Own} {L L' : Int} {b : Nat} {D D' : DS} {sema lv pv : Value} {m : Nat} (h : DiskF w own L b D sema lv pv m) (o : Nat) (v : Value)
    (hb : (strCells L sema lv pv m D).setIfInBounds o v = strCells L' sema lv pv m D')
    (h1 : D'.lasting = D.lasting) (h2 : D'.pending = D.pending) (h3 : D'.wr = D.wr) (h4 : 0 ≤ D'.fuse ∧ D'.fuse ≤ 9223372036854775807) : DiskF (w.setCell ⟨b, o, none⟩ v) own L' b D' sema lv pv m :=
  h.turn (chg1 v) (fun hb0 => by rw [heap_setCell_same v hb0, hb]) h1 h2 h3 h4.1 h4.2

theorem DiskAt.set {w : World} {own : Own} {L L' : Int} {b : Nat} {D D' : DS} (h : DiskAt w own L b D) (o : Nat) (v : Value)
    (hb : ∀ sema lv pv m, (strCells L sema lv pv m D).setIfInBounds o v = strCells L' sema lv pv m D')
    (h1 : D'.lasting = D.lasting) (h2 : D'.pending = D.pending) (h3 : D'.wr = D.wr) (h4 : 0 ≤ D'.fuse ∧ D'.fuse ≤ 9223372036854775807) : DiskAt (w.setCell ⟨b, o, none⟩ v) own L' b D' := by
  obtain ⟨sema, lv, pv, m, h⟩ := h
  exact ⟨sema, lv, pv, m, h.set o v (hb _ _ _ _) h1 h2 h3 h4⟩

theorem DiskAt.fuse {w : World} {own : Own} {L : Int} {b : Nat} {D : DS} (h : DiskAt w own L b D) : 0 ≤ D.fuse ∧ D.fuse ≤ 9223372036854775807 := by
  obtain ⟨_, _, _, _, h⟩ := h
  exact ⟨h.f0, h.f1⟩

theorem DiskF.lock {w : World} {own : Own} {b : Nat} {D : DS} {sema lv pv : Value} {m : Nat} (L L' : Int) (h : DiskF w own L b D sema lv pv m) : DiskF (w.setCell ⟨b, 0, none⟩ (.int .i32 L')) own L' b D sema lv pv m :=
  h.set 0 _ rfl rfl rfl rfl ⟨h.f0, h.f1⟩
theorem DiskAt.lock {w : World} {own : Own} {b : Nat} {D : DS} (L L' : Int) (h : DiskAt w own L b D) : DiskAt (w.setCell ⟨b, 0, none⟩ (.int .i32 L')) own L' b D :=
  h.set 0 _ (fun _ _ _ _ => rfl) rfl rfl rfl h.fuse

theorem DiskAt.str {w : World} {own : Own} {L : Int} {b : Nat} {D : DS} (h : DiskAt w own L b D) : own b = some .str := by
  obtain ⟨_, _, _, _, h⟩ := h
  exact h.str

theorem DiskAt.lockCell {w : World} {own : Own} {b : Nat} {D : DS} {L : Int} (h : DiskAt w own L b D) : w.cell? ⟨b, 0, none⟩ = some (.int .i32 L) ∧ ∀ o, w.frozen? ⟨b, o, none⟩ = false := by
  obtain ⟨sema, lv, pv, m, h⟩ := h
  exact ⟨by simp [World.cell?, h.blk, strCells], fun o => by simp [World.frozen?, h.blk]⟩

theorem DiskAt.cells {w : World} {own : Own} {b : Nat} {D : DS} {L : Int} (h : DiskAt w own L b D) :
    w.cell? ⟨b, 2, none⟩ = some (.int .i64 D.cap) ∧ w.cell? ⟨b, 6, none⟩ = some (.bool D.off) ∧ w.cell? ⟨b, 7, none⟩ = some (.int .i64 D.fuse) ∧ w.cell? ⟨b, 8, none⟩ = some (.int .i64 D.done) ∧ w.cell? ⟨b, 9, none⟩ = some (.int .i64 D.reads) := by
  obtain ⟨sema, lv, pv, m, h⟩ := h
  refine ⟨?_, ?_, ?_, ?_, ?_⟩ <;> simp [World.cell?, h.blk, strCells]
theorem DiskF.fields {w : World} {own : Own} {b : Nat} {D : DS} {L : Int} {sema lv pv : Value} {m : Nat} (h : DiskF w own L b D sema lv pv m) :
    w.cell? ⟨b, 3, none⟩ = some lv ∧ w.cell? ⟨b, 4, none⟩ = some pv ∧ w.cell? ⟨b, 5, none⟩ = some (.map (some m)) := by
  refine ⟨?_, ?_, ?_⟩ <;> simp [World.cell?, h.blk, strCells]

def DS.count (D : DS) : DS :=
  { D with done := wrap64 (D.done + 1), fuse := if 0 < D.fuse then D.fuse - 1 else D.fuse, off := if 0 < D.fuse then D.fuse - 1 == 0 else D.off }

theorem DS.count_pos {D : DS} (h : 0 < D.fuse) : D.count = { D with done := wrap64 (D.done + 1), fuse := D.fuse - 1, off := D.fuse - 1 == 0 } := by simp [DS.count, h]
theorem DS.count_neg {D : DS} (h : D.fuse ≤ 0) : D.count = { D with done := wrap64 (D.done + 1) } := by simp [DS.count, show ¬ 0 < D.fuse by omega]

theorem count_any (w : World) (own : Own) (L : Int) (b : Nat) (D : DS) (h : DiskAt w own L b D) :
    Calls Tryz.prog 24 #[.pointer (some ⟨b, 0, none⟩)] w fun e w' => e = .returned (.bool (!D.count.off)) ∧ DiskAt w' own L b D.count ∧ Chg (fun x => x = b) w w' := by
  have hD := Lib.hid h
  obtain ⟨_, h6, h7, h8, _⟩ := h.cells
  obtain ⟨_, hfz⟩ := h.lockCell
  have f6 := hfz 6
  have f7 := hfz 7
  have f8 := hfz 8
  obtain ⟨hf0, hf1⟩ := h.fuse
  clear hfz h
  by_cases hpos : 0 < D.fuse
  · have he := Lib.hid (DS.count_pos hpos)
    go_enter Tryz.func24, Tryz.ntmps24
    go_wp2
    go_ret
    rw [he.out]
    refine ⟨rfl, ?_, chgS (chgS (chg1 _) _ _) _ _⟩
    exact ((hD.out.set (L' := L) (D' := { D with done := wrap64 (D.done + 1) }) 8 _ (fun _ _ _ _ => rfl) rfl rfl rfl hD.out.fuse).set (L' := L) (D' := { D with done := wrap64 (D.done + 1), fuse := D.fuse - 1 }) 7 _ (fun _ _ _ _ => rfl) rfl rfl rfl ⟨by show 0 ≤ D.fuse - 1; omega, by show D.fuse - 1 ≤ _; omega⟩).set (L' := L) 6 _ (fun _ _ _ _ => rfl) rfl rfl rfl ⟨by show 0 ≤ D.fuse - 1; omega, by show D.fuse - 1 ≤ _; omega⟩
  · have he := Lib.hid (DS.count_neg (by omega : D.fuse ≤ 0))
    go_enter Tryz.func24, Tryz.ntmps24
    go_wp2
    go_ret
    rw [he.out]
    refine ⟨rfl, ?_, chg1 _⟩
    exact hD.out.set (L' := L) (D' := { D with done := wrap64 (D.done + 1) }) 8 _ (fun _ _ _ _ => rfl) rfl rfl rfl hD.out.fuse

/-- What a getter under the lock leaves. -/
theorem unlocks {w w2 : World} {own : Own} {b : Nat} {D : DS} (h : DiskAt w2 own 1 b D) (hc : Chg (fun x => x = b) w w2) :
    DiskAt (w2.setCell ⟨b, 0, none⟩ (.int .i32 0)) own 0 b D ∧ Chg (fun x => x = b) w (w2.setCell ⟨b, 0, none⟩ (.int .i32 0)) :=
  ⟨h.lock 1 0, hc.setCell (Or.inl rfl) _⟩

end Go.Proofs.YtckioocahmbhkaaGreatDoor
