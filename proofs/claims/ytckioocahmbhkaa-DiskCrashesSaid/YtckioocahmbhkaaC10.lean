/- The law DiskCrashes: its last loop: two disks read alike. -/
import Derived.Test.YtckioocahmbhkaaC9
import Derived.WalkKit
import Derived.Outline
import Derived.Deep.DeepCutAuto
import Derived.Deep.LoopGhost
import Derived.Deep.CutBlock
import Derived.Deep.RegionHeld3
namespace Go.Proofs.Ytckioocahmbhkaa
open Go Go.RowKit Go.Maps Go.MuLone

/-- A disk of which nothing pends. -/
structure RInv (D : DS) (B : List (List UInt8)) : Prop where
  ok : D.ok
  off : D.off = false
  pending : D.pending = []
  lasting : D.lasting = B
theorem RInv.pages {D : DS} {B : List (List UInt8)} (h : RInv D B) : D.pages = B.length := by unfold DS.pages; rw [h.pending, h.lasting]; rfl

def rdC (B : List (List UInt8)) (i : Nat) : Int := if i < B.length then 0 else 121
def rdB (B : List (List UInt8)) (i : Nat) : List UInt8 := (B[i]?).getD []

theorem R_read {D : DS} {B : List (List UInt8)} (h : RInv D B) (i : Nat) : ∃ D', D.read i = (rdC B i, rdB B i, D') ∧ RInv D' B := by
  have hpg := h.pages
  by_cases hi : i < B.length
  · refine ⟨D.looked, ?_, ⟨⟨h.ok.page, h.ok.data, h.ok.no, h.ok.len⟩, h.off, h.pending, h.lasting⟩⟩
    unfold DS.read rdC rdB
    rw [if_neg (by omega), h.off, if_pos hi, Int.toNat_natCast]
    unfold DS.page
    rw [h.pending, h.lasting, List.getElem?_eq_getElem hi]
    simp [lastOf, List.getD_eq_getElem?_getD, List.getElem?_eq_getElem hi]
  · refine ⟨D, ?_, h⟩
    unfold DS.read rdC rdB
    rw [if_pos (by omega), if_neg hi, List.getElem?_eq_none (by omega)]; rfl

/-- Two disks beside one another. -/
def Ph5 (w0 w : World) (b b2 : Nat) (B : List (List UInt8)) : Prop :=
  ∃ own own2 D D2, St w0 w own b D ∧ St w0 w own2 b2 D2 ∧ (∀ k, own.blocks k → ¬ own2.blocks k) ∧ RInv D B ∧ RInv D2 B

set_option maxRecDepth 100000 in
set_option maxHeartbeats 4000000 in
theorem dc_loop5 {Q0 : Exit → Act → World → Prop} {s0 s1 s2 s3 s4 s5 s6 s7 s10 s11 s12 s13 s14 s15 s16 s17 s18 s19 s20 s21 s22 s23 s24 s25 s27 s29 s30 s31 s32 s33 s34 s35 s36 s37 s38 s39 s40 s41 s42 s43 s44 s45 s46 s47 s48 s49 s50 s51 s52 s53 s54 s55 s56 s57 s58 s59 s60 s61 s62 s63 s64 s65 s66 s67 s68 s69 s70 s71 s72 s73 s74 s75 s76 s77 s78 s79 s80 s81 s82 s83 s84 s85 s86 s87 s88 s89 s90 s91 s92 s93 s94 s95 s96 s97 s98 s99 s100 s101 s102 s103 s104 s105 s106 s107 s108 s109 s110 s111 s112 s113 s114 s115 s116 s117 s118 s119 s120 s121 s122 s123 s124 s125 s126 s127 s128 s129 s130 s131 s132 s133 s134 s135 s136 s137 s138 s139 s140 s141 s142 s143 s144 s145 s146 s147 s148 s149 s150 s151 s152 s153 s154 s155 s156 s157 s158 s159 s160 s161 s162 s163 s164 s165 s166 s167 s168 s169 s170 s171 s172 s173 s174 s175 s176 s177 s178 s179 s180 s181 s182 s183 s184 s185 s186 s187 s188 s189 s190 s191 s192 s193 s194 s195 s196 s197 s198 s199 s200 s201 s202 s203 s204 s205 s206 s207 s208 s209 s210 s211 s212 s213 s214 s215 s216 s217 s218 s219 s220 s221 s222 s223 s224 s225 s226 s227 s228 s229 s230 s231 s232 s233 s234 s235 s236 s237 s238 s239 s240 s241 s242 s243 s244 s245 s246 s247 s248 s249 s250 s251 s252 s253 s254 s255 s256 s257 s258 s259 s260 s261 s262 s263 s264 s265 s266 s267 s268 s269 s270 s271 s272 s273 s274 s275 s276 s277 s278 s279 s280 s281 s282 s283 s284 s285 s286 s287 : Value} (w0 w : World) (b b2 : Nat) (B : List (List UInt8)) (ba : Option Addr) (bc : Nat) (hp : Ph5 w0 w b b2 B) (hB : B.length ≤ 40)
    (hexit : ∀ ⦃u6 u25 u28 u29 u30 u31 u32 u258 u259 u260 u261 u262 u263 u264 u265 u266 u267 u268 u269 u270 u271 u272 u273 u274 u275 u276 u277 u278 u279 u280 u281 u282 u283 u284 u285 u286 u287 : Value⦄ (w' : World), (Below w0.heap.size w0 w') → Q0 .normal ⟨List.toArray (s0 :: s1 :: s2 :: s3 :: s4 :: s5 :: u6 :: s7 :: .pointer (some ⟨b, 0, none⟩) :: .slice ba B.length bc :: s10 :: s11 :: s12 :: s13 :: s14 :: s15 :: s16 :: s17 :: s18 :: s19 :: s20 :: s21 :: s22 :: s23 :: s24 :: u25 :: .pointer (some ⟨b2, 0, none⟩) :: s27 :: u28 :: u29 :: u30 :: u31 :: u32 :: s33 :: s34 :: s35 :: s36 :: s37 :: s38 :: s39 :: s40 :: s41 :: s42 :: s43 :: s44 :: s45 :: s46 :: s47 :: s48 :: s49 :: s50 :: s51 :: s52 :: s53 :: s54 :: s55 :: s56 :: s57 :: s58 :: s59 :: s60 :: s61 :: s62 :: s63 :: s64 :: s65 :: s66 :: s67 :: s68 :: s69 :: s70 :: s71 :: s72 :: s73 :: s74 :: s75 :: s76 :: s77 :: s78 :: s79 :: s80 :: s81 :: s82 :: s83 :: s84 :: s85 :: s86 :: s87 :: s88 :: s89 :: s90 :: s91 :: s92 :: s93 :: s94 :: s95 :: s96 :: s97 :: s98 :: s99 :: s100 :: s101 :: s102 :: s103 :: s104 :: s105 :: s106 :: s107 :: s108 :: s109 :: s110 :: s111 :: s112 :: s113 :: s114 :: s115 :: s116 :: s117 :: s118 :: s119 :: s120 :: s121 :: s122 :: s123 :: s124 :: s125 :: s126 :: s127 :: s128 :: s129 :: s130 :: s131 :: s132 :: s133 :: s134 :: s135 :: s136 :: s137 :: s138 :: s139 :: s140 :: s141 :: s142 :: s143 :: s144 :: s145 :: s146 :: s147 :: s148 :: s149 :: s150 :: s151 :: s152 :: s153 :: s154 :: s155 :: s156 :: s157 :: s158 :: s159 :: s160 :: s161 :: s162 :: s163 :: s164 :: s165 :: s166 :: s167 :: s168 :: s169 :: s170 :: s171 :: s172 :: s173 :: s174 :: s175 :: s176 :: s177 :: s178 :: s179 :: s180 :: s181 :: s182 :: s183 :: s184 :: s185 :: s186 :: s187 :: s188 :: s189 :: s190 :: s191 :: s192 :: s193 :: s194 :: s195 :: s196 :: s197 :: s198 :: s199 :: s200 :: s201 :: s202 :: s203 :: s204 :: s205 :: s206 :: s207 :: s208 :: s209 :: s210 :: s211 :: s212 :: s213 :: s214 :: s215 :: s216 :: s217 :: s218 :: s219 :: s220 :: s221 :: s222 :: s223 :: s224 :: s225 :: s226 :: s227 :: s228 :: s229 :: s230 :: s231 :: s232 :: s233 :: s234 :: s235 :: s236 :: s237 :: s238 :: s239 :: s240 :: s241 :: s242 :: s243 :: s244 :: s245 :: s246 :: s247 :: s248 :: s249 :: s250 :: s251 :: s252 :: s253 :: s254 :: s255 :: s256 :: s257 :: u258 :: u259 :: u260 :: u261 :: u262 :: u263 :: u264 :: u265 :: u266 :: u267 :: u268 :: u269 :: u270 :: u271 :: u272 :: u273 :: u274 :: u275 :: u276 :: u277 :: u278 :: u279 :: u280 :: u281 :: u282 :: u283 :: u284 :: u285 :: u286 :: u287 :: []), []⟩ w') :
    Code.wp Try.prog (blk 12 Try.f5) Q0 ⟨List.toArray (s0 :: s1 :: s2 :: s3 :: s4 :: s5 :: s6 :: s7 :: .pointer (some ⟨b, 0, none⟩) :: .slice ba B.length bc :: s10 :: s11 :: s12 :: s13 :: s14 :: s15 :: s16 :: s17 :: s18 :: s19 :: s20 :: s21 :: s22 :: s23 :: s24 :: s25 :: .pointer (some ⟨b2, 0, none⟩) :: s27 :: .int .i64 0 :: s29 :: s30 :: s31 :: s32 :: s33 :: s34 :: s35 :: s36 :: s37 :: s38 :: s39 :: s40 :: s41 :: s42 :: s43 :: s44 :: s45 :: s46 :: s47 :: s48 :: s49 :: s50 :: s51 :: s52 :: s53 :: s54 :: s55 :: s56 :: s57 :: s58 :: s59 :: s60 :: s61 :: s62 :: s63 :: s64 :: s65 :: s66 :: s67 :: s68 :: s69 :: s70 :: s71 :: s72 :: s73 :: s74 :: s75 :: s76 :: s77 :: s78 :: s79 :: s80 :: s81 :: s82 :: s83 :: s84 :: s85 :: s86 :: s87 :: s88 :: s89 :: s90 :: s91 :: s92 :: s93 :: s94 :: s95 :: s96 :: s97 :: s98 :: s99 :: s100 :: s101 :: s102 :: s103 :: s104 :: s105 :: s106 :: s107 :: s108 :: s109 :: s110 :: s111 :: s112 :: s113 :: s114 :: s115 :: s116 :: s117 :: s118 :: s119 :: s120 :: s121 :: s122 :: s123 :: s124 :: s125 :: s126 :: s127 :: s128 :: s129 :: s130 :: s131 :: s132 :: s133 :: s134 :: s135 :: s136 :: s137 :: s138 :: s139 :: s140 :: s141 :: s142 :: s143 :: s144 :: s145 :: s146 :: s147 :: s148 :: s149 :: s150 :: s151 :: s152 :: s153 :: s154 :: s155 :: s156 :: s157 :: s158 :: s159 :: s160 :: s161 :: s162 :: s163 :: s164 :: s165 :: s166 :: s167 :: s168 :: s169 :: s170 :: s171 :: s172 :: s173 :: s174 :: s175 :: s176 :: s177 :: s178 :: s179 :: s180 :: s181 :: s182 :: s183 :: s184 :: s185 :: s186 :: s187 :: s188 :: s189 :: s190 :: s191 :: s192 :: s193 :: s194 :: s195 :: s196 :: s197 :: s198 :: s199 :: s200 :: s201 :: s202 :: s203 :: s204 :: s205 :: s206 :: s207 :: s208 :: s209 :: s210 :: s211 :: s212 :: s213 :: s214 :: s215 :: s216 :: s217 :: s218 :: s219 :: s220 :: s221 :: s222 :: s223 :: s224 :: s225 :: s226 :: s227 :: s228 :: s229 :: s230 :: s231 :: s232 :: s233 :: s234 :: s235 :: s236 :: s237 :: s238 :: s239 :: s240 :: s241 :: s242 :: s243 :: s244 :: s245 :: s246 :: s247 :: s248 :: s249 :: s250 :: s251 :: s252 :: s253 :: s254 :: s255 :: s256 :: s257 :: s258 :: s259 :: s260 :: s261 :: s262 :: s263 :: s264 :: s265 :: s266 :: s267 :: s268 :: s269 :: s270 :: s271 :: s272 :: s273 :: s274 :: s275 :: s276 :: s277 :: s278 :: s279 :: s280 :: s281 :: s282 :: s283 :: s284 :: s285 :: s286 :: s287 :: []), []⟩ w := by
  have HX := Lib.hid hexit
  have HP := Lib.hid hp
  clear hexit hp
  conv => arg 2; whnf
  go_wp2_with fail
  go_loopg [28] (B.length + 1) (fun g iv wr => ∃ k : Nat, k ≤ B.length + 1 ∧ g = B.length + 1 - k ∧ iv = .int .i64 k ∧ Ph5 w0 wr b b2 B)
  case atStart => exact ⟨0, by omega, rfl, rfl, HP.out⟩
  case round =>
    obtain ⟨k, hk, hg, rfl, own, own2, D, D2, hS, hS2, hdis, hR, hR2⟩ := hrel
    have Hg := Lib.hid hg
    have S1 := Lib.hid hS
    have S2 := Lib.hid hS2
    have HD := Lib.hid hdis
    have R1 := Lib.hid hR
    have R2 := Lib.hid hR2
    clear hg hS hS2 hdis hR hR2
    by_cases hlt : k ≤ B.length
    · obtain ⟨D', hD', hR'⟩ := R_read R1.out k
      obtain ⟨D2', hD2', hR2'⟩ := R_read R2.out k
      have HD1 := Lib.hid hD'
      have HD2 := Lib.hid hD2'
      have R1' := Lib.hid hR'
      have R2' := Lib.hid hR2'
      have HP1 : Hid (D.pages ≤ 1000000) := Lib.hid (by rw [R1.out.pages]; omega)
      have HP2 : Hid (D2.pages ≤ 1000000) := Lib.hid (by rw [R2.out.pages]; omega)
      obtain ⟨c, hc⟩ : ∃ c, c = rdC B k := ⟨_, rfl⟩
      obtain ⟨bs, hbs⟩ : ∃ bs, bs = rdB B k := ⟨_, rfl⟩
      rw [← hc, ← hbs] at HD1 HD2
      have hcc : (c != c) = false := by simp
      have Hcc := Lib.hid hcc
      clear hD' hD2' hR' hR2' hc hbs hcc
      go_wp2_with fail
      refine (read_st S1.out R1.out.ok HP1.out k HD1.out).mono ?_
      rintro e w2 ⟨ra, rc, rfl, hT, s2, t2⟩
      have S1' := Lib.hid s2
      have S2' := Lib.hid (S2.out.other t2.chg (fun x hx => ⟨HD.out x hx, S1.out.new x hx⟩))
      have HT1 := Lib.hid hT.1
      have HN1 : Hid (∀ g, (Value.slice ra bs.length rc).ownBlock = some g → ¬ own2.blocks g) := Lib.hid fun g e hb => by have := hT.2 g e; have := S2.out.lt hb; omega
      clear hT s2 t2
      go_wp2_with fail
      refine (read_st S2'.out R2.out.ok HP2.out k HD2.out).mono ?_
      rintro e w3 ⟨ra2, rc2, rfl, hT, s3, t3⟩
      have S2'' := Lib.hid s3
      have S1'' := Lib.hid (S1'.out.other t3.chg (fun x hx => ⟨fun e => HD.out x e hx, S2'.out.new x hx⟩))
      have hx1 := SeesB.of_row (ownsRow_chg HT1.out t3.chg HN1.out)
      have hx2 := SeesB.of_row hT.1
      have HSame := Lib.hid (same_yes _ _ _ bs hx1 hx2)
      clear hT s3 t3 hx1 hx2
      go_wp2_with fail
      refine HSame.out.mono ?_
      rintro e w' ⟨rfl, rfl⟩
      have hcc := Hcc.out
      go_wp2_with (go_at_call 12; refine (num_any _ _).mono ?_; rintro e w' ⟨rfl, rfl⟩)
      go_roundg (B.length + 1 - (k + 1))
      case measure => have := Hg.out; omega
      case rel => exact ⟨k + 1, by omega, rfl, by go_num, own, own2, _, _, S1''.out, S2''.out, HD.out, R1'.out, R2'.out⟩
    · go_wp2_with fail
      exact HX.out wr S1.out.below

end Go.Proofs.Ytckioocahmbhkaa
