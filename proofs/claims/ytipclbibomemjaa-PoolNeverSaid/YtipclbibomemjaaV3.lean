/- Appends of this program; the document's pool: Free, Usable, Room. -/
import Derived.Test.YtipclbibomemjaaV2
namespace Go.Proofs.Ytipclbibomemjaa
open Go Go.RowKit Go.Maps

theorem info76 : (Try.prog.info? 76).map (fun i => (i.zero, i.size, i.bytes)) = some (some (.agg #[.int .i64 0, .int .i64 0]), 2, 16) := by kernel_rfl
theorem app_int {wr : World} {ops : Array Oper} {rest : List Oper} {o : Oper} {a : Act} {Q : Exit → Act → World → Prop} (hgd : o.guard = none) (s x : Operand)
    (ho : o.op = .call { callee := .builtin .append, args := #[s, x], argTypes := #[22, 22] }) (v : Value) (zs : List Int) (hs : a.eval s = v) (hrow : wr.ownsRow 0 3 1 v zs.length (zs.map (Value.int .i64))) (y : Int)
    (hx : a.eval x = .slice (some ⟨wr.heap.size, 0, none⟩) 1 1) (hl : zs.length ≤ 3000000)
    (h : ∀ g cap w5, w5.ownsRow 0 3 1 (.slice (some ⟨g, 0, none⟩) (zs.length + 1) cap) (zs.length + 1) ((zs ++ [y]).map (Value.int .i64)) → Chg (fun k => v.ownBlock = some k) wr w5 → (v.ownBlock = some g ∨ wr.heap.size < g) → wpList Try.prog ops Q rest (a.put o.dst (.slice (some ⟨g, 0, none⟩) (zs.length + 1) cap)) w5) :
    wpList Try.prog ops Q (o :: rest) a (wr.alloc (.cells #[.int .i64 y] 3)) := by
  obtain ⟨i1, hi', hz0, hz1, hz2⟩ := info_parts info3
  refine wpList_append_lies _ hgd s x 22 ho 0 3 i1 (.int .i64 0) 1 8 Try.underlying22 hi' hz0 hz1 hz2 rfl (by omega) v zs.length (zs.map (Value.int .i64)) hs (hrow.alloc _) ⟨wr.heap.size, 0, none⟩ 1 1 [.int .i64 y] hx (by rfl) (World.news_of_block (cs := #[.int .i64 y]) (t := 3) (fr := (0, 0)) (heap_alloc_new wr _)) (by simp [Value.oneCell']) (by omega) (by unfold maxLen; omega) (by omega) (Nat.zero_le _) (wr.heap.size + 1) (Array.size_push _) ?_
  intro g cap w5 h1 h2 h3 _
  refine h g cap w5 (by rw [List.map_append]; exact h1) (((Chg.refl (fun k => v.ownBlock = some k) wr).alloc _).grown h2 (fun k e => .inl e)) (h3.imp id (fun e => by omega))

theorem app_free {wr : World} {ops : Array Oper} {rest : List Oper} {o : Oper} {a : Act} {Q : Exit → Act → World → Prop} (hgd : o.guard = none) (s x : Operand)
    (ho : o.op = .call { callee := .builtin .append, args := #[s, x], argTypes := #[62, 62] }) (v : Value) (L : List (Nat × Int)) (hs : a.eval s = v) (hrow : wr.ownsRow 0 76 2 v L.length (frow L)) (y : Nat) (z : Int)
    (hx : a.eval x = .slice (some ⟨wr.heap.size, 0, none⟩) 1 1) (hl : L.length ≤ 3000000)
    (h : ∀ g cap w5, w5.ownsRow 0 76 2 (.slice (some ⟨g, 0, none⟩) (L.length + 1) cap) (L.length + 1) (frow (L ++ [(y, z)])) → Chg (fun k => v.ownBlock = some k) wr w5 → (v.ownBlock = some g ∨ wr.heap.size < g) → wpList Try.prog ops Q rest (a.put o.dst (.slice (some ⟨g, 0, none⟩) (L.length + 1) cap)) w5) :
    wpList Try.prog ops Q (o :: rest) a (wr.alloc (.cells #[.int .i64 y, .int .i64 z] 76)) := by
  obtain ⟨i1, hi', hz0, hz1, hz2⟩ := info_parts info76
  refine wpList_append_lies _ hgd s x 62 ho 0 76 i1 _ 2 16 Try.underlying62 hi' hz0 hz1 hz2 rfl (by omega) v L.length (frow L) hs (hrow.alloc _) ⟨wr.heap.size, 0, none⟩ 1 1 [.int .i64 y, .int .i64 z] hx (by rfl) (World.news_of_block (cs := #[.int .i64 y, .int .i64 z]) (t := 76) (fr := (0, 0)) (heap_alloc_new wr _)) (by simp [Value.oneCell']) (by omega) (by unfold maxLen; omega) (by omega) (Nat.zero_le _) (wr.heap.size + 1) (Array.size_push _) ?_
  intro g cap w5 h1 h2 h3 _
  refine h g cap w5 (by rw [frow_append]; exact h1) (((Chg.refl (fun k => v.ownBlock = some k) wr).alloc _).grown h2 (fun k e => .inl e)) (h3.imp id (fun e => by omega))

/-- A list of its own, made since w. -/
def OwnI (w wr : World) (v : Value) (zs : List Int) : Prop := NewI w wr v zs
theorem nums_snoc {L : List (Nat × Int)} {k : Nat} {q : Nat × Int} (h : L[k]? = some q) : nums (L.take (k + 1)) = nums (L.take k) ++ [(q.1 : Int)] := by
  unfold nums; rw [List.take_add_one, h, List.map_append]; rfl
theorem NewI.nil (w wr : World) : NewI w wr (.slice none 0 0) [] := ⟨World.ownsRow_nil _ _ _ _, fun g e => by simp [Value.ownBlock] at e⟩
theorem NewI.grow {w wr w5 : World} {v : Value} {zs zs' : List Int} {g cap : Nat} (h : NewI w wr v zs) (hz : zs'.length = zs.length + 1) (hr : w5.ownsRow 0 3 1 (.slice (some ⟨g, 0, none⟩) (zs.length + 1) cap) (zs.length + 1) (zs'.map (Value.int .i64))) (hat : v.ownBlock = some g ∨ wr.heap.size < g) (hs : w.heap.size ≤ wr.heap.size) : NewI w w5 (.slice (some ⟨g, 0, none⟩) (zs.length + 1) cap) zs' := by
  refine ⟨by rw [hz]; exact hr, fun g' e => ?_⟩
  have e2 : some g = some g' := e
  injection e2 with e3
  subst e3
  rcases hat with e | e
  · exact h.2 _ e
  · omega
theorem NewI.slice {w wr : World} {v : Value} {zs : List Int} (h : NewI w wr v zs) : ∃ a c, v = .slice a zs.length c := by
  obtain ⟨a, c, rfl, _⟩ := ownsRow_slice h.1
  exact ⟨a, c, rfl⟩
theorem Chg.news {S : Nat → Prop} {w wr w' : World} (h : Chg (fun _ => False) w wr) (h' : Chg S wr w') (hs : ∀ k, S k → w.heap.size ≤ k) : Chg (fun _ => False) w w' := h.trans h' (fun x e => .inr (hs x e))

set_option maxRecDepth 100000 in
set_option maxHeartbeats 4000000 in
theorem rfree_any (w : World) (rb : Nat) (P : PS) (lv pv : Value) (h : RF w rb P lv pv) (hl : P.free.length ≤ 1000000) :
    Calls Try.prog 29 #[.pointer (some ⟨rb, 0, none⟩)] w fun e w' => ∃ v, e = .returned v ∧ NewI w w' v (nums P.free) ∧ Chg (fun _ => False) w w' := by
  have HF := Lib.hid h
  obtain ⟨a, c, rfl, _, _, _⟩ := ownsRow_slice h.fr
  obtain ⟨n, hn⟩ : ∃ n, n = P.free.length := ⟨_, rfl⟩
  have HN := Lib.hid hn
  rw [← hn] at hl HF
  clear h hn
  go_enter Try.func29, Try.ntmps29
  go_wp2_with fail
  go_loopg [3, 4] n (fun gm lv iv wr => ∃ (k : Nat) (zs : List Int), k ≤ n ∧ gm = n - k ∧ iv = .int .i64 k ∧ zs = nums (P.free.take k) ∧ NewI w wr lv zs ∧ Chg (fun _ => False) w wr)
  case atStart => exact ⟨0, [], by omega, rfl, rfl, rfl, NewI.nil _ _, Chg.refl _ _⟩
  case round =>
    obtain ⟨k, zs, hk, hg, rfl, hz, hN, hch⟩ := hrel
    have Hg := Lib.hid hg
    have HNw := Lib.hid hN
    have HCh := Lib.hid hch
    have HZ := Lib.hid hz
    have hzk : zs.length ≤ k := by rw [hz, nums_length]; exact List.length_take_le _ _
    obtain ⟨va, vc, rfl⟩ := hN.slice
    have HW := Lib.hid (HF.out.chg0 hch)
    obtain ⟨_, _, c2, _, _⟩ := HW.out.cells
    clear hg hN hz
    by_cases hlt : k < n
    · obtain ⟨q, hq⟩ : ∃ q, P.free[k]? = some q := ⟨_, List.getElem?_eq_getElem (by rw [← HN.out]; exact hlt)⟩
      obtain ⟨g, e, cx, _⟩ := frow_cell (n := n) (by have := HW.out.fr; rw [← HN.out] at this; exact this) hq
      cases e
      have HQ := Lib.hid hq
      have hki : (k : Int) < (n : Int) := by omega
      have hk0 : (0 : Int) ≤ (k : Int) := by omega
      clear hq hch
      go_wp2_with (first
        | (at_builtin; refine app_int rfl _ _ rfl _ zs rfl HNw.out.1 (q.1 : Int) rfl (by omega) ?_; intro g5 cap5 w5 hr5 hc5 hat5; have HR5 := Lib.hid hr5; have HC5 := Lib.hid (HCh.out.news hc5 HNw.out.2); have HA5 := Lib.hid hat5; clear hr5 hc5 hat5)
        | fail)
      go_roundg (n - (k + 1))
      case measure => have := Hg.out; omega
      case rel => exact ⟨k + 1, zs ++ [(q.1 : Int)], by omega, rfl, by go_num, by rw [nums_snoc HQ.out, HZ.out], HNw.out.grow (by simp) HR5.out HA5.out HCh.out.size, HC5.out⟩
    · have hkn : n ≤ k := by omega
      have HE : Hid (NewI w wr (.slice va zs.length vc) (nums P.free)) := Lib.hid (by
        have := HNw.out
        have hz := HZ.out
        rw [List.take_of_length_le (by rw [← HN.out]; omega)] at hz
        rw [← hz]; exact this)
      clear hch
      go_wp2_with fail
      go_ret
      exact ⟨_, rfl, HE.out, HCh.out⟩
end Go.Proofs.Ytipclbibomemjaa
