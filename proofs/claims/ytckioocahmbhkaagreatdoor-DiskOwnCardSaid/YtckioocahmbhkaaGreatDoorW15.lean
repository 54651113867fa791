/- Walks: Durable. -/
import Derived.Test.YtckioocahmbhkaaGreatDoorW14
import Derived.Outline
namespace Go.Proofs.YtckioocahmbhkaaGreatDoor
open Go Go.RowKit Go.Maps Go.MuLone

theorem addr_add (g o j : Nat) : (⟨g, o, none⟩ : Addr).add j = ⟨g, o + j, none⟩ := by simp [Addr.add]

theorem flatten_len (L : List (List UInt8)) (h : ∀ p ∈ L, p.length = 4096) : L.flatten.length = L.length * 4096 := by
  induction L with
  | nil => rfl
  | cons p L ih =>
    rw [List.flatten_cons, List.length_append, ih (fun q hq => h q (by simp [hq])), h p (by simp), List.length_cons]; omega

theorem flatten_snoc (L : List (List UInt8)) (k : Nat) (p : List UInt8) (h : L[k]? = some p) : (L.take (k + 1)).flatten = (L.take k).flatten ++ p := by
  rw [List.take_add_one, h]; simp

set_option maxRecDepth 100000 in
set_option maxHeartbeats 800000 in
theorem durable_any (w : World) (own : Own) (b : Nat) (D : DS) (h : DiskAt w own 0 b D) (hok : D.ok) :
    Calls Tryz.prog 13 #[.pointer (some ⟨b, 0, none⟩)] w fun e w' => ∃ a cap, e = .returned (.slice a D.lasting.flatten.length cap) ∧ Handed w w' (.slice a D.lasting.flatten.length cap) D.lasting.flatten ∧ DiskAt w' own 0 b D ∧ Chg (fun x => x = b) w w' := by
  have h1 := h.lock 0 1
  have Hok := Lib.hid hok
  obtain ⟨hs, hfz⟩ := h.lockCell
  have hbl0 : b < w.heap.size := h.blt
  obtain ⟨sema, lv, pv, m, hF⟩ := h1
  obtain ⟨c3, _, _⟩ := hF.fields
  obtain ⟨ls, hll, ⟨hla, hlo⟩, hlp⟩ := hF.last
  obtain ⟨la, lc, rfl, hlnc, hlm, hlg⟩ := ownsRow_slice hla
  obtain ⟨i1, hi', hz0, hz1, hz2⟩ := info_parts info5
  have Hll := Lib.hid hll
  have Hlp := Lib.hid hlp
  have Hla := Lib.hid hla
  have HF := Lib.hid hF
  have hsz : (w.setCell ⟨b, 0, none⟩ (.int .i32 1)).heap.size = w.heap.size := by simp [World.setCell]
  have Hsz := Lib.hid hsz
  obtain ⟨B, hB⟩ : ∃ B, B = w.heap.size := ⟨_, rfl⟩
  have HB := Lib.hid hB
  have Hfl := Lib.hid (flatten_len D.lasting hok.page)
  have hln : D.lasting.length ≤ 524287 := hok.len
  have hz2' : i1.bytes ≤ 1 := by omega
  clear h hok hF hll hlp hla hsz hB
  go_enter_defers Tryz.func13, Tryz.ntmps13
  go_wp2_with (first
    | (go_at_call 21; refine (lock_free Tryz.muLib ⟨b, 0, none⟩ _ hs (hfz 0)).mono ?_; rintro e w' ⟨rfl, rfl⟩)
    | (at_make; refine wpList_make_own _ rfl _ _ 47 rfl 0 5 i1 (.int .u8 0) 1 Tryz.underlying47 hi' hz0 hz1 .i64 .i64 _ (D.lasting.length * 4096) rfl rfl (by simp) (by rw [hz2]; omega) (by unfold maxLen; omega) (Nat.zero_le _) ?_; intro w1 hown1 hg1; rw [Hsz.out, ← HB.out] at hown1 ⊢; have c31 : w1.cell? ⟨b, 3, none⟩ = some (.slice la D.lasting.length lc) := hg1.cell c3 (by simp); have Hown1 := Lib.hid hown1; have Hg1 := Lib.hid hg1; clear hown1 hg1))
  go_loopw [3, 25] (fun v i wr => ∃ (k n : Nat) (a : Option Addr) (cap : Nat), k ≤ D.lasting.length ∧ i = .int .i64 k ∧ n = k * 4096 ∧ v = .slice a n cap ∧ wr.ownsRow 0 5 1 (.slice a n cap) n (bVs (D.lasting.take k).flatten) ∧ (∀ g, (Value.slice a n cap).ownBlock = some g → B ≤ g) ∧ Chg (fun _ => False) (w.setCell ⟨b, 0, none⟩ (.int .i32 1)) wr)
    (fun _ i _ => D.lasting.length - (intOf i).toNat)
  case atStart => exact ⟨0, 0, _, _, Nat.zero_le _, rfl, rfl, rfl, Hown1.out, fun g e => by cases e; exact Nat.le_refl _, (Chg.refl _ _).grown Hg1.out (fun k e => by cases e)⟩
  case round =>
    obtain ⟨k, n, a, cap, hk, rfl, hn, rfl, hrowv, hvB, hchg⟩ := hrel
    have Hn := Lib.hid hn
    have hn2 : n ≤ 524287 * 4096 := by omega
    clear hn
    by_cases hlt : k < D.lasting.length
    · obtain ⟨g, rfl⟩ := hlg (by omega)
      have hrow := ownsRow_chg Hla.out hchg (fun _ _ f => f)
      obtain ⟨p, hp⟩ : ∃ p, D.lasting[k]? = some p := ⟨_, List.getElem?_eq_getElem hlt⟩
      obtain ⟨v, hv, gv, cv, rfl, hrole, hbuf⟩ := Hlp.out k p hp
      have hpl : p.length = 4096 := Hok.out.page p (List.mem_of_getElem? hp)
      have hbufr := ownsRow_chg hbuf hchg (fun _ _ f => f)
      obtain ⟨s1, s2⟩ := row_sees hbufr
      have cl : wr.cell? ⟨g, k, none⟩ = some (.slice (some ⟨gv, 0, none⟩) p.length cv) := (hrow.cellAt k (by have := Hll.out; omega)).trans hv
      have Hp := Lib.hid hp
      have Hrowv := Lib.hid hrowv
      have HvB := Lib.hid hvB
      have Hs2 := Lib.hid s2
      have Hpl := Lib.hid hpl
      have hpl2 : p.length ≤ 4096 := by omega
      clear hrow hp hv hrole hbuf hbufr hrowv hvB s2 hpl
      go_wp2_with (at_builtin; refine wpList_append_own_at _ rfl _ _ 47 rfl 0 5 i1 (.int .u8 0) 1 1 Tryz.underlying47 hi' hz0 hz1 hz2 rfl (by decide) _ n (bVs (D.lasting.take k).flatten) rfl Hrowv.out ⟨gv, 0, none⟩ p.length cv (bVs p) rfl (by rw [bVs_length, Nat.mul_one]) (fun j u hu => by obtain ⟨x, hx, rfl⟩ := bVs_get hu; rw [addr_add]; exact Hs2.out j x hx) oneCell_bVs (by unfold maxLen; omega) (by omega) (Nat.zero_le _) ?_; intro v' w1' hown' hg' hnil' hat')
      obtain ⟨a', cap', rfl⟩ : ∃ a' cap', v' = .slice a' (n + p.length) cap' := by
        obtain ⟨a', cap', h, _⟩ := ownsRow_slice hown'
        exact ⟨a', cap', h⟩
      have hB1 : B ≤ wr.heap.size := by
        have := hchg.size
        rw [Hsz.out, ← HB.out] at this; exact this
      have hc' : Chg (fun _ => False) (w.setCell ⟨b, 0, none⟩ (.int .i32 1)) w1' :=
        hchg.grown hg' (fun k e => .inr (by rw [Hsz.out, ← HB.out]; exact HvB.out k e))
      refine ⟨⟨k + 1, n + p.length, a', cap', by omega, by go_num, ?_, rfl, ?_, fun g e => ?_, hc'⟩, by simp [intOf]; omega⟩
      · have := Hn.out; have := Hpl.out; omega
      · rw [flatten_snoc _ _ _ Hp.out, show bVs ((D.lasting.take k).flatten ++ p) = bVs (D.lasting.take k).flatten ++ bVs p by simp [bVs]]
        exact hown'
      · rcases hat' with e' | e'
        · exact HvB.out g (e'.symm.trans e)
        · rw [e'] at e; cases e; exact hB1
    · have hk2 : k = D.lasting.length := by omega
      subst hk2
      have h4 : DiskF wr own 1 b D sema (.slice la D.lasting.length lc) pv m := HF.out.chg hchg (fun _ _ f => f)
      have h4' : DiskAt wr own 1 b D := ⟨_, _, _, _, h4⟩
      obtain ⟨hs4, hfz4⟩ := h4'.lockCell
      have H4 := Lib.hid h4'
      have Hchg := Lib.hid hchg
      have Hrowv := Lib.hid hrowv
      have HvB := Lib.hid hvB
      clear h4 h4' hchg hrowv hvB
      go_wp2
      refine leaves_cons (f := 22) (args := #[.pointer (some ⟨b, 0, none⟩)]) (by simp) (by simp [go_sem]) ?_
      refine (unlock_deferred Tryz.muLib ⟨b, 0, none⟩ .returning _ hs4 (hfz4 0)).mono ?_
      rintro e u' w'' ⟨rfl, rfl, rfl⟩
      have hne : n = D.lasting.flatten.length := by rw [Hfl.out]; exact Hn.out
      have hr2 := Hrowv.out
      rw [List.take_length] at hr2
      subst hne
      refine ⟨_, results_tmp rfl _ _ _, a, cap, rfl, ⟨ownsRow_chg hr2 (chg1 (b := b) (o := 0) _) (fun g e e2 => ?_), fun g e => ?_⟩, H4.out.lock 1 0, chgS ((chg1 (b := b) (o := 0) _).trans Hchg.out (fun _ f => f.elim)) 0 _⟩
      · have := HvB.out g e
        rw [HB.out] at this
        omega
      · rw [← HB.out]; exact HvB.out g e

end Go.Proofs.YtckioocahmbhkaaGreatDoor
