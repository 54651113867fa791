/- The law DiskCrashes: its fourth loop: all pages in a row. -/
import Derived.Test.YtckioocahmbhkaaC8
import Derived.WalkKit
import Derived.Outline
import Derived.Deep.DeepCutAuto
import Derived.Deep.LoopGhost
import Derived.Deep.CutBlock
import Derived.Deep.RegionHeld3
namespace Go.Proofs.Ytckioocahmbhkaa
open Go Go.RowKit Go.Maps Go.MuLone

/-- A row of bytes of the law's own, beside the disk and the book. -/
def Al (w0 w : World) (own bown : Own) (av : Value) (bs : List UInt8) : Prop :=
  (∃ a cap, av = .slice a bs.length cap) ∧ w.ownsRow 0 5 1 av bs.length (bVs bs) ∧ ∀ g, av.ownBlock = some g → w0.heap.size ≤ g ∧ g < w.heap.size ∧ ¬ own.blocks g ∧ ¬ bown.blocks g
theorem Al.nil (w0 w : World) (own bown : Own) : Al w0 w own bown (.slice none 0 0) [] := ⟨⟨_, _, rfl⟩, World.ownsRow_nil _ _ _ _, fun g e => by simp [Value.ownBlock] at e⟩
theorem Al.step {w0 w w' : World} {own own' bown : Own} {av : Value} {bs : List UInt8} (h : Al w0 w own bown av bs) (hst : Step w own w' own') : Al w0 w' own' bown av bs :=
  ⟨h.1, ownsRow_chg h.2.1 hst.chg (fun g e => (h.2.2 g e).2.2.1), fun g e => let k := hst.keep (h.2.2 g e).2.2.1 (h.2.2 g e).2.1; ⟨(h.2.2 g e).1, k.2.1, k.1, (h.2.2 g e).2.2.2⟩⟩
theorem Al.chg {w0 w w' : World} {own bown : Own} {av : Value} {bs : List UInt8} {S : Nat → Prop} (h : Al w0 w own bown av bs) (hc : Chg S w w') (hs : ∀ g, av.ownBlock = some g → ¬ S g) : Al w0 w' own bown av bs :=
  ⟨h.1, ownsRow_chg h.2.1 hc hs, fun g e => ⟨(h.2.2 g e).1, Nat.lt_of_lt_of_le (h.2.2 g e).2.1 hc.size, (h.2.2 g e).2.2⟩⟩

def Ph4 (w0 w : World) (b : Nat) (D : DS) (bv : Value) (B : List (List UInt8)) (av : Value) (bs : List UInt8) : Prop :=
  ∃ own bown, St w0 w own b D ∧ Bo w0 w own bown bv B ∧ Al w0 w own bown av bs

set_option maxRecDepth 100000 in
set_option maxHeartbeats 4000000 in
theorem dc_loop4 {Q0 : Exit → Act → World → Prop} {s0 s1 s2 s3 s4 s5 s6 s7 s8 s10 s11 s12 s13 s14 s15 s16 s17 s18 s19 s20 s21 s24 s25 s26 s27 s28 s29 s30 s31 s32 s33 s34 s35 s36 s37 s38 s39 s40 s41 s42 s43 s44 s45 s46 s47 s48 s49 s50 s51 s52 s53 s54 s55 s56 s57 s58 s59 s60 s61 s62 s63 s64 s65 s66 s67 s68 s69 s70 s71 s72 s73 s74 s75 s76 s77 s78 s79 s80 s81 s82 s83 s84 s85 s86 s87 s88 s89 s90 s91 s92 s93 s94 s95 s96 s97 s98 s99 s100 s101 s102 s103 s104 s105 s106 s107 s108 s109 s110 s111 s112 s113 s114 s115 s116 s117 s118 s119 s120 s121 s122 s123 s124 s125 s126 s127 s128 s129 s130 s131 s132 s133 s134 s135 s136 s137 s138 s139 s140 s141 s142 s143 s144 s145 s146 s147 s148 s149 s150 s151 s152 s153 s154 s155 s156 s157 s158 s159 s160 s161 s162 s163 s164 s165 s166 s167 s168 s169 s170 s171 s172 s173 s174 s175 s176 s177 s178 s179 s180 s181 s182 s183 s184 s185 s186 s187 s188 s189 s190 s191 s192 s193 s194 s195 s196 s197 s198 s199 s200 s201 s202 s203 s204 s205 s206 s207 s208 s209 s210 s211 s212 s213 s214 s215 s216 s217 s218 s219 s220 s221 s222 s223 s224 s225 s226 s227 s228 s229 s230 s231 s232 s233 s234 s235 s236 s237 s238 s239 s240 s241 s242 s243 s244 s245 s246 s247 s248 s249 s250 s251 s252 s253 s254 s255 s256 s257 s258 s259 s260 s261 s262 s263 s264 s265 s266 s267 s268 s269 s270 s271 s272 s273 s274 s275 s276 s277 s278 s279 s280 s281 s282 s283 s284 s285 s286 s287 : Value} (w0 w : World) (b : Nat) (D : DS) (bv : Value) (B : List (List UInt8)) (hp : Ph4 w0 w b D bv B (.slice none 0 0) []) (hB : B.length ≤ 40) (hpg : ∀ p ∈ B, p.length = 4096)
    (hexit : ∀ ⦃u22 u23 u205 u206 u207 u208 u209 u210 u211 u212 u213 u214 u215 u216 : Value⦄ (w' : World), (Ph4 w0 w' b D bv B u22 B.flatten) → Q0 .normal ⟨List.toArray (s0 :: s1 :: s2 :: s3 :: s4 :: s5 :: s6 :: s7 :: s8 :: bv :: s10 :: s11 :: s12 :: s13 :: s14 :: s15 :: s16 :: s17 :: s18 :: s19 :: s20 :: s21 :: u22 :: u23 :: s24 :: s25 :: s26 :: s27 :: s28 :: s29 :: s30 :: s31 :: s32 :: s33 :: s34 :: s35 :: s36 :: s37 :: s38 :: s39 :: s40 :: s41 :: s42 :: s43 :: s44 :: s45 :: s46 :: s47 :: s48 :: s49 :: s50 :: s51 :: s52 :: s53 :: s54 :: s55 :: s56 :: s57 :: s58 :: s59 :: s60 :: s61 :: s62 :: s63 :: s64 :: s65 :: s66 :: s67 :: s68 :: s69 :: s70 :: s71 :: s72 :: s73 :: s74 :: s75 :: s76 :: s77 :: s78 :: s79 :: s80 :: s81 :: s82 :: s83 :: s84 :: s85 :: s86 :: s87 :: s88 :: s89 :: s90 :: s91 :: s92 :: s93 :: s94 :: s95 :: s96 :: s97 :: s98 :: s99 :: s100 :: s101 :: s102 :: s103 :: s104 :: s105 :: s106 :: s107 :: s108 :: s109 :: s110 :: s111 :: s112 :: s113 :: s114 :: s115 :: s116 :: s117 :: s118 :: s119 :: s120 :: s121 :: s122 :: s123 :: s124 :: s125 :: s126 :: s127 :: s128 :: s129 :: s130 :: s131 :: s132 :: s133 :: s134 :: s135 :: s136 :: s137 :: s138 :: s139 :: s140 :: s141 :: s142 :: s143 :: s144 :: s145 :: s146 :: s147 :: s148 :: s149 :: s150 :: s151 :: s152 :: s153 :: s154 :: s155 :: s156 :: s157 :: s158 :: s159 :: s160 :: s161 :: s162 :: s163 :: s164 :: s165 :: s166 :: s167 :: s168 :: s169 :: s170 :: s171 :: s172 :: s173 :: s174 :: s175 :: s176 :: s177 :: s178 :: s179 :: s180 :: s181 :: s182 :: s183 :: s184 :: s185 :: s186 :: s187 :: s188 :: s189 :: s190 :: s191 :: s192 :: s193 :: s194 :: s195 :: s196 :: s197 :: s198 :: s199 :: s200 :: s201 :: s202 :: s203 :: s204 :: u205 :: u206 :: u207 :: u208 :: u209 :: u210 :: u211 :: u212 :: u213 :: u214 :: u215 :: u216 :: s217 :: s218 :: s219 :: s220 :: s221 :: s222 :: s223 :: s224 :: s225 :: s226 :: s227 :: s228 :: s229 :: s230 :: s231 :: s232 :: s233 :: s234 :: s235 :: s236 :: s237 :: s238 :: s239 :: s240 :: s241 :: s242 :: s243 :: s244 :: s245 :: s246 :: s247 :: s248 :: s249 :: s250 :: s251 :: s252 :: s253 :: s254 :: s255 :: s256 :: s257 :: s258 :: s259 :: s260 :: s261 :: s262 :: s263 :: s264 :: s265 :: s266 :: s267 :: s268 :: s269 :: s270 :: s271 :: s272 :: s273 :: s274 :: s275 :: s276 :: s277 :: s278 :: s279 :: s280 :: s281 :: s282 :: s283 :: s284 :: s285 :: s286 :: s287 :: []), []⟩ w') :
    Code.wp Try.prog (blk 10 Try.f5) Q0 ⟨List.toArray (s0 :: s1 :: s2 :: s3 :: s4 :: s5 :: s6 :: s7 :: s8 :: bv :: s10 :: s11 :: s12 :: s13 :: s14 :: s15 :: s16 :: s17 :: s18 :: s19 :: s20 :: s21 :: .slice none 0 0 :: .int .i64 0 :: s24 :: s25 :: s26 :: s27 :: s28 :: s29 :: s30 :: s31 :: s32 :: s33 :: s34 :: s35 :: s36 :: s37 :: s38 :: s39 :: s40 :: s41 :: s42 :: s43 :: s44 :: s45 :: s46 :: s47 :: s48 :: s49 :: s50 :: s51 :: s52 :: s53 :: s54 :: s55 :: s56 :: s57 :: s58 :: s59 :: s60 :: s61 :: s62 :: s63 :: s64 :: s65 :: s66 :: s67 :: s68 :: s69 :: s70 :: s71 :: s72 :: s73 :: s74 :: s75 :: s76 :: s77 :: s78 :: s79 :: s80 :: s81 :: s82 :: s83 :: s84 :: s85 :: s86 :: s87 :: s88 :: s89 :: s90 :: s91 :: s92 :: s93 :: s94 :: s95 :: s96 :: s97 :: s98 :: s99 :: s100 :: s101 :: s102 :: s103 :: s104 :: s105 :: s106 :: s107 :: s108 :: s109 :: s110 :: s111 :: s112 :: s113 :: s114 :: s115 :: s116 :: s117 :: s118 :: s119 :: s120 :: s121 :: s122 :: s123 :: s124 :: s125 :: s126 :: s127 :: s128 :: s129 :: s130 :: s131 :: s132 :: s133 :: s134 :: s135 :: s136 :: s137 :: s138 :: s139 :: s140 :: s141 :: s142 :: s143 :: s144 :: s145 :: s146 :: s147 :: s148 :: s149 :: s150 :: s151 :: s152 :: s153 :: s154 :: s155 :: s156 :: s157 :: s158 :: s159 :: s160 :: s161 :: s162 :: s163 :: s164 :: s165 :: s166 :: s167 :: s168 :: s169 :: s170 :: s171 :: s172 :: s173 :: s174 :: s175 :: s176 :: s177 :: s178 :: s179 :: s180 :: s181 :: s182 :: s183 :: s184 :: s185 :: s186 :: s187 :: s188 :: s189 :: s190 :: s191 :: s192 :: s193 :: s194 :: s195 :: s196 :: s197 :: s198 :: s199 :: s200 :: s201 :: s202 :: s203 :: s204 :: s205 :: s206 :: s207 :: s208 :: s209 :: s210 :: s211 :: s212 :: s213 :: s214 :: s215 :: s216 :: s217 :: s218 :: s219 :: s220 :: s221 :: s222 :: s223 :: s224 :: s225 :: s226 :: s227 :: s228 :: s229 :: s230 :: s231 :: s232 :: s233 :: s234 :: s235 :: s236 :: s237 :: s238 :: s239 :: s240 :: s241 :: s242 :: s243 :: s244 :: s245 :: s246 :: s247 :: s248 :: s249 :: s250 :: s251 :: s252 :: s253 :: s254 :: s255 :: s256 :: s257 :: s258 :: s259 :: s260 :: s261 :: s262 :: s263 :: s264 :: s265 :: s266 :: s267 :: s268 :: s269 :: s270 :: s271 :: s272 :: s273 :: s274 :: s275 :: s276 :: s277 :: s278 :: s279 :: s280 :: s281 :: s282 :: s283 :: s284 :: s285 :: s286 :: s287 :: []), []⟩ w := by
  have HX := Lib.hid hexit
  have HP := Lib.hid hp
  have Hpg := Lib.hid hpg
  obtain ⟨ba, bc, rfl⟩ : ∃ a c, bv = .slice a B.length c := by obtain ⟨_, _, _, h, _⟩ := hp; exact h.form
  clear hexit hp hpg
  obtain ⟨i1, hi', hz0, hz1, hz2⟩ := info_parts info5
  conv => arg 2; whnf
  go_wp2_with fail
  go_loopg [22, 23] B.length (fun g av iv wr => ∃ (k n : Nat) (a : Option Addr) (cap : Nat), k ≤ B.length ∧ g = B.length - k ∧ iv = .int .i64 k ∧ n = k * 4096 ∧ av = .slice a n cap ∧ Ph4 w0 wr b D (.slice ba B.length bc) B (.slice a n cap) (B.take k).flatten)
  case atStart => exact ⟨0, 0, none, 0, by omega, rfl, rfl, rfl, rfl, HP.out⟩
  case round =>
    obtain ⟨k, n, a, cap, hk, hg, rfl, hn, rfl, own1, bown1, hS1, hB1, hA1⟩ := hrel
    have Hg := Lib.hid hg
    have S1 := Lib.hid hS1
    have B1 := Lib.hid hB1
    have A1 := Lib.hid hA1
    have Hn := Lib.hid hn
    have hn2 : n ≤ 40 * 4096 := by omega
    clear hg hS1 hA1 hn
    by_cases hlt : k < B.length
    · obtain ⟨p, hp⟩ : ∃ p, B[k]? = some p := ⟨_, List.getElem?_eq_getElem hlt⟩
      have hpl : p.length = 4096 := Hpg.out p (List.mem_of_getElem? hp)
      obtain ⟨bg, bc', ls, gv, cv, e, cb, hrow, ho, _⟩ := hB1.page hp
      cases e
      have hnl : (B.take k).flatten.length = n := by
        rw [flatten_len _ (fun p hp => Hpg.out p (List.mem_of_mem_take hp)), List.length_take, Nat.min_eq_left hk, Hn.out]
      have HR := Lib.hid A1.out.2.1
      rw [hnl] at HR
      obtain ⟨s1, s2⟩ := row_sees hrow
      have Hs2 := Lib.hid s2
      have Hpl := Lib.hid hpl
      have Hp := Lib.hid hp
      have hpl2 : p.length ≤ 4096 := by omega
      have Hrow := Lib.hid hrow
      have Ho := Lib.hid ho
      have Hnl := Lib.hid hnl
      clear hB1 hp hpl hrow ho s2 hnl
      go_wp2_with (at_builtin; refine wpList_append_own_at _ rfl _ _ 27 rfl 0 5 i1 (.int .u8 0) 1 1 Try.underlying27 hi' hz0 hz1 hz2 rfl (by decide) _ n (bVs (B.take k).flatten) rfl HR.out ⟨gv, 0, none⟩ p.length cv (bVs p) rfl (by rw [bVs_length, Nat.mul_one]) (fun j u hu => by obtain ⟨x, hx, rfl⟩ := bVs_get hu; rw [addr_add]; exact Hs2.out j x hx) oneCell_bVs (by unfold maxLen; omega) (by omega) (Nat.zero_le _) ?_; intro v' w5 hown5 hgrow5 hnil5 hat5)
      obtain ⟨a', cap', rfl⟩ : ∃ a' cap', v' = .slice a' (n + p.length) cap' := by
        obtain ⟨a', cap', h, _⟩ := ownsRow_slice hown5
        exact ⟨a', cap', h⟩
      have hc5 : Chg (fun x => (Value.slice a n cap).ownBlock = some x) wr w5 := (Chg.refl _ wr).grown hgrow5 (fun k hk => .inl hk)
      have hsz := S1.out.below.size
      have hS5 := S1.out.other hc5 (fun x e => ⟨(A1.out.2.2 x e).2.2.1, (A1.out.2.2 x e).1⟩)
      have hB5 := B1.out.chg hc5 (fun x e e2 => (A1.out.2.2 x e2).2.2.2 e)
      have hfl : (B.take (k + 1)).flatten = (B.take k).flatten ++ p := flatten_snoc _ _ _ Hp.out
      have hA5 : Al w0 w5 own1 bown1 (.slice a' (n + p.length) cap') (B.take (k + 1)).flatten := by
        refine ⟨⟨a', cap', by rw [hfl, List.length_append, Hnl.out]⟩, ?_, fun x e => ?_⟩
        · rw [hfl, List.length_append, Hnl.out, show bVs ((B.take k).flatten ++ p) = bVs (B.take k).flatten ++ bVs p by simp [bVs]]
          exact hown5
        · have hlt5 := (hown5.lt x e).2
          rcases hat5 with e' | e'
          · have := A1.out.2.2 x (e'.symm.trans e)
            exact ⟨this.1, hlt5, this.2.2⟩
          · rw [e'] at e; cases e
            exact ⟨hsz, hlt5, S1.out.free (Nat.le_refl _), fun e2 => by have := (B1.out.lt _ e2).2.1; omega⟩
      have HB5 := Lib.hid hB5
      have HA5 := Lib.hid hA5
      have HS5 := Lib.hid hS5
      clear hB5 hA5 hS5 hfl
      go_wp2_with fail
      go_roundg (B.length - (k + 1))
      case measure => have := Hg.out; omega
      case rel => exact ⟨k + 1, n + p.length, a', cap', by omega, rfl, by go_num, by have := Hn.out; have := Hpl.out; omega, rfl, own1, bown1, HS5.out, HB5.out, HA5.out⟩
    · have hk2 : k = B.length := by omega
      subst hk2
      go_wp2_with fail
      refine HX.out wr ⟨own1, bown1, S1.out, B1.out, ?_⟩
      have := A1.out
      rw [List.take_length] at this
      exact this

end Go.Proofs.Ytckioocahmbhkaa
