/- Walks: two pairs of pools beside one another: what one call leaves. -/
import Derived.Test.YtipclbibomemjaaV16
namespace Go.Proofs.Ytipclbibomemjaa
open Go Go.RowKit Go.Maps

def PlayedF (w : World) (T : Nat → Prop) (b n : Nat) (e : Ending) (w' : World) : Prop :=
  e = .returned (.bool true) ∧ ∃ T' pb m1 m2 rb T2 P, PairF w' T' b pb m1 m2 rb T2 P ∧ P.fit (n + 1) ∧ TStep w T w' T'

set_option maxRecDepth 100000 in
theorem plays_long {w : World} {T T2 : Nat → Prop} {b pb m1 m2 rb : Nat} {P : PS} (h : PairF w T b pb m1 m2 rb T2 P) {n : Nat} (hok : P.fit n) (o : OpD) (ga : Option Addr) (gc : Nat) (hl : 4000 < o.gone.length) :
    Calls Try.prog 11 #[.pointer (some ⟨b, 0, none⟩), opV o (.slice ga o.gone.length gc)] w (PlayedF w T b n) := by
  have H := Lib.hid h
  have Hok := Lib.hid hok
  have hl3 : (4000 : Int) < (o.gone.length : Int) := by omega
  clear h hok
  unfold opV
  go_enter Try.func11, Try.ntmps11
  go_wp2_with fail
  go_ret
  have hc := (Chg.refl (fun _ => False) w).alloc (opObj o (.slice ga o.gone.length gc))
  exact ⟨rfl, T, pb, m1, m2, rb, T2, P, H.out.chg0 hc, Hok.out.mono (Nat.le_succ n), TStep.of0 hc⟩

theorem plays_any {w : World} {T T2 : Nat → Prop} {b pb m1 m2 rb : Nat} {P : PS} (h : PairF w T b pb m1 m2 rb T2 P) {n : Nat} (hok : P.fit n) (hn : n < 1000000) (o : OpD) (ho : o.ok) (ga : Option Addr) (gc : Nat) (hs : SeesI w (.slice ga o.gone.length gc) o.gone) (hfar : ∀ ad, ga = some ad → o.gone ≠ [] → ad.block < w.heap.size ∧ ¬ T ad.block) :
    Calls Try.prog 11 #[.pointer (some ⟨b, 0, none⟩), opV o (.slice ga o.gone.length gc)] w (PlayedF w T b n) := by
  by_cases hl : o.gone.length ≤ 4000
  · have key : Calls Try.prog 11 #[.pointer (some ⟨b, 0, none⟩), opV o (.slice ga o.gone.length gc)] w (Played w T b pb m1 m2 rb (P.plays o)) := by
      have sm := hok.small hn
      by_cases k1 : o.kind = 1
      · exact plays_1 h sm o ho ga gc hs hl hfar k1
      by_cases k2 : o.kind = 2
      · exact plays_2 h sm o ho ga gc hs hl hfar k2
      by_cases k3 : o.kind = 3
      · exact plays_3 h sm o ho ga gc hs hl hfar k3
      by_cases k4 : o.kind = 4
      · exact plays_4 h sm o ho ga gc hs hl hfar k4
      by_cases k5 : o.kind = 5
      · exact plays_5 h sm o ho ga gc hs hl hfar k5
      exact plays_0 h sm o ho ga gc hs hl hfar ⟨k1, k2, k3, k4, k5⟩
    refine key.mono ?_
    rintro e w' ⟨rfl, T', T2', h1, h2⟩
    exact ⟨rfl, T', pb, m1, m2, rb, T2', _, h1, does_fit hok o.kind o.a o.b o.gone ho.b, h2⟩
  · exact plays_long h hok o ga gc (by omega)

/-- A pair, made or not. -/
inductive Half (w : World) (T : Nat → Prop) (b n : Nat) : Prop where
  | nil : w.heap[b]? = some (.cells #[.pointer none, .pointer none] 30) → T b → (∀ k, T k → k < w.heap.size) → Half w T b n
  | pair (pb m1 m2 rb : Nat) (T2 : Nat → Prop) (P : PS) : PairF w T b pb m1 m2 rb T2 P → P.fit n → Half w T b n
theorem Half.other {w w' : World} {T S : Nat → Prop} {b n : Nat} (h : Half w T b n) (hc : Chg S w w') (hs : ∀ k, T k → ¬ S k) : Half w' T b n := by
  cases h with
  | nil h1 h2 h3 => exact .nil (hc.get h1 (hs b h2)) h2 (fun k e => Nat.lt_of_lt_of_le (h3 k e) hc.size)
  | pair pb m1 m2 rb T2 P h1 h2 => exact .pair pb m1 m2 rb T2 P (h1.other hc hs) h2
theorem Half.mono {w : World} {T : Nat → Prop} {b n m : Nat} (h : Half w T b n) (hn : n ≤ m) : Half w T b m := by
  cases h with
  | nil h1 h2 h3 => exact .nil h1 h2 h3
  | pair pb m1 m2 rb T2 P h1 h2 => exact .pair pb m1 m2 rb T2 P h1 (h2.mono hn)
theorem Half.lt {w : World} {T : Nat → Prop} {b n : Nat} (h : Half w T b n) : ∀ k, T k → k < w.heap.size := by
  cases h with
  | nil h1 h2 h3 => exact h3
  | pair pb m1 m2 rb T2 P h1 h2 => exact h1.lt

/-- Both pairs, since w0. -/
structure Both (w0 w : World) (Ta Tc : Nat → Prop) (a c n : Nat) : Prop where
  ha : Half w Ta a n
  hc : Half w Tc c n
  dis : ∀ k, Ta k → ¬ Tc k
  na : ∀ k, Ta k → w0.heap.size ≤ k
  nc : ∀ k, Tc k → w0.heap.size ≤ k
  chg : Chg (fun _ => False) w0 w
theorem Both.mono {w0 w : World} {Ta Tc : Nat → Prop} {a c n m : Nat} (h : Both w0 w Ta Tc a c n) (hn : n ≤ m) : Both w0 w Ta Tc a c m := ⟨h.ha.mono hn, h.hc.mono hn, h.dis, h.na, h.nc, h.chg⟩
theorem Both.swap {w0 w : World} {Ta Tc : Nat → Prop} {a c n : Nat} (h : Both w0 w Ta Tc a c n) : Both w0 w Tc Ta c a n := ⟨h.hc, h.ha, fun k e f => h.dis k f e, h.nc, h.na, h.chg⟩
theorem Both.step {w0 w w' : World} {Ta Ta' Tc : Nat → Prop} {a c n m : Nat} (h : Both w0 w Ta Tc a c n) (hn : n ≤ m) (h' : Half w' Ta' a m) (hs : TStep w Ta w' Ta') : Both w0 w' Ta' Tc a c m := by
  have h0 := h.chg.size
  refine ⟨h', (h.hc.other hs.chg (fun k e f => h.dis k f e)).mono hn, fun k e f => ?_, fun k e => ?_, h.nc, h.chg.trans hs.chg (fun k e => .inr (h.na k e))⟩
  · rcases hs.sub k e with e2 | e2
    · exact h.dis k e2 f
    · have := h.hc.lt k f; omega
  · rcases hs.sub k e with e2 | e2
    · exact h.na k e2
    · omega

/-- A script's calls as they lie. -/
def OpsA (w : World) (v : Value) (os : List OpD) : Prop :=
  ∃ a cap, v = .slice a os.length cap ∧ (0 < os.length → ∃ g off, a = some ⟨g, off, none⟩ ∧ ∀ (i : Nat) (o : OpD), os[i]? = some o → ∃ ga gc,
    w.cell? ⟨g, off + i * 5, none⟩ = some (.int .i64 o.kind) ∧ w.cell? ⟨g, off + i * 5 + 1, none⟩ = some (.int .i64 o.a) ∧ w.cell? ⟨g, off + i * 5 + 2, none⟩ = some (.int .i64 o.b) ∧ w.cell? ⟨g, off + i * 5 + 3, none⟩ = some (.slice ga o.gone.length gc) ∧
    w.cell? ⟨g, off + i * 5 + 4, none⟩ = some (.bool o.second) ∧ SeesI w (.slice ga o.gone.length gc) o.gone ∧ o.ok)
theorem SeesI.old {w : World} {ga : Option Addr} {n c : Nat} {zs : List Int} (h : SeesI w (.slice ga n c) zs) : ∀ ad, ga = some ad → zs ≠ [] → ad.block < w.heap.size := by
  intro ad e hne
  obtain ⟨a, cap, e2, _, h2⟩ := h
  cases e2
  cases zs with
  | nil => exact (hne rfl).elim
  | cons x l =>
    have h3 := h2 ad e 0 x rfl
    have hlt := World.block_lt_of_cell? _ _ h3
    have hbk : (ad.add 0).block = ad.block := by unfold Addr.add; split <;> rfl
    rw [hbk] at hlt; exact hlt
end Go.Proofs.Ytipclbibomemjaa
