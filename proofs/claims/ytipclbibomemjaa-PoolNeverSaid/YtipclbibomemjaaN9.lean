/- Walks: a life's turn: its two loops. -/
import Derived.Test.YtipclbibomemjaaN8
namespace Go.Proofs.Ytipclbibomemjaa
open Go Go.RowKit Go.Maps

def LD.gave (D : LD) (gone : List Int) (k : Nat) : LD := { D with mine := (gone.take k).foldl (fun m x => m.erase x) D.mine, fs := D.fs ++ gone.take k, ss := D.ss ++ List.replicate k D.ver }
theorem LD.gave_succ (D : LD) {gone : List Int} {k : Nat} {x : Int} (h : gone[k]? = some x) : D.gave gone (k + 1) = { D with mine := (D.gave gone k).mine.erase x, fs := (D.gave gone k).fs ++ [x], ss := (D.gave gone k).ss ++ [D.ver] } := by
  unfold LD.gave
  simp only [take_snoc h, List.foldl_append, List.foldl_cons, List.foldl_nil, List.replicate_succ', List.append_assoc]
theorem erases_len (gone m : List Int) : (gone.foldl (fun m x => m.erase x) m).length ≤ m.length := by
  induction gone generalizing m with
  | nil => exact Nat.le_refl _
  | cons x l ih => exact Nat.le_trans (ih _) List.length_erase_le

set_option maxRecDepth 100000 in
set_option maxHeartbeats 8000000 in
theorem tn_back {Q0 : Exit → Act → World → Prop} {s1 s2 s3 s4 s5 s7 s8 s9 s10 s11 s12 s13 s14 s16 s17 s18 s19 s20 s21 s22 s23 s24 s25 s26 s27 s28 s29 s30 s31 s32 s33 s34 s35 s36 s37 s38 s39 s40 s41 s42 s43 s44 s45 s46 s47 s48 s49 s50 s51 s52 s53 s54 s55 s56 s57 s58 s59 s60 s61 s62 s63 s64 s65 s66 s67 s68 s69 s70 s71 s72 s73 s74 s75 s76 s77 s78 s79 s80 s81 s82 s83 s84 s85 s86 s87 s88 s89 s90 s91 s92 s93 s94 s95 s96 s97 s98 s99 s100 s101 s102 s103 s104 s105 s106 s107 s108 s109 s110 s111 s112 s113 s114 s115 s116 s117 s118 s119 s120 s121 s122 s123 s124 s125 s126 s127 s128 s129 s130 s131 s132 s133 s134 s135 s136 s137 s138 s139 s140 s141 s142 s143 s144 s145 s146 s147 s148 s149 s150 s151 s152 s153 s154 s155 s156 s157 s158 s159 s160 s161 s162 s163 s164 s165 s166 s167 s168 s169 s170 s171 s172 s173 s174 s175 s176 s177 s178 s179 s180 s181 s182 s183 s184 s185 s186 s187 s188 s189 s190 s191 s192 s193 s194 s195 s196 s197 s198 s199 s200 s201 s202 s203 s204 s205 s206 s207 s208 s209 s210 s211 s212 s213 s214 s215 s216 s217 s218 s219 s220 s221 s222 s223 s224 s225 s226 s227 s228 s229 s230 s231 s232 s233 s234 s235 s236 s237 s238 s239 s240 s241 s242 s243 s244 s245 s246 s247 s248 s249 s250 s251 s252 s253 s254 s255 s256 s257 s258 s259 s260 s261 s262 s263 s264 s265 s266 s267 s268 s269 s270 s271 s272 s273 s274 s275 : Value} {w : World} {own : OwnR} {xb pb m1 m2 : Nat} {D : LD} {mv fv sv pv : Value} (h : LifeF w own xb pb m1 m2 D mv fv sv pv) {ga : Option Addr} {gc : Nat} {gone : List Int} (hg : Kept w own (.slice ga gone.length gc) gone) (hl1 : D.mine.length ≤ 1000000) (hl2 : D.fs.length + gone.length ≤ 1000000) (hl3 : D.ss.length + gone.length ≤ 1000000)
    (hexit : ∀ ⦃u15 u218 u219 u220 u221 u222 u223 u224 u225 u226 u227 u228 u229 u230 u231 u232 u233 u234 u235 u236 u237 u238 u239 u240 u241 u242 u243 u244 u245 u246 u247 u248 u249 u250 u251 u252 u253 u254 u255 u256 u257 u258 u259 u260 u261 : Value⦄ (w' : World), (∃ own' mv' fv' sv', LifeF w' own' xb pb m1 m2 (D.gave gone gone.length) mv' fv' sv' pv ∧ OStep w own w' own') → Q0 .normal ⟨List.toArray (.pointer (some ⟨xb, 0, none⟩) :: s1 :: s2 :: s3 :: s4 :: s5 :: .slice ga gone.length gc :: s7 :: s8 :: s9 :: s10 :: s11 :: s12 :: s13 :: s14 :: u15 :: s16 :: s17 :: s18 :: s19 :: s20 :: s21 :: s22 :: s23 :: s24 :: s25 :: s26 :: s27 :: s28 :: s29 :: s30 :: s31 :: s32 :: s33 :: s34 :: s35 :: s36 :: s37 :: s38 :: s39 :: s40 :: s41 :: s42 :: s43 :: s44 :: s45 :: s46 :: s47 :: s48 :: s49 :: s50 :: s51 :: s52 :: s53 :: s54 :: s55 :: s56 :: s57 :: s58 :: s59 :: s60 :: s61 :: s62 :: s63 :: s64 :: s65 :: s66 :: s67 :: s68 :: s69 :: s70 :: s71 :: s72 :: s73 :: s74 :: s75 :: s76 :: s77 :: s78 :: s79 :: s80 :: s81 :: s82 :: s83 :: s84 :: s85 :: s86 :: s87 :: s88 :: s89 :: s90 :: s91 :: s92 :: s93 :: s94 :: s95 :: s96 :: s97 :: s98 :: s99 :: s100 :: s101 :: s102 :: s103 :: s104 :: s105 :: s106 :: s107 :: s108 :: s109 :: s110 :: s111 :: s112 :: s113 :: s114 :: s115 :: s116 :: s117 :: s118 :: s119 :: s120 :: s121 :: s122 :: s123 :: s124 :: s125 :: s126 :: s127 :: s128 :: s129 :: s130 :: s131 :: s132 :: s133 :: s134 :: s135 :: s136 :: s137 :: s138 :: s139 :: s140 :: s141 :: s142 :: s143 :: s144 :: s145 :: s146 :: s147 :: s148 :: s149 :: s150 :: s151 :: s152 :: s153 :: s154 :: s155 :: s156 :: s157 :: s158 :: s159 :: s160 :: s161 :: s162 :: s163 :: s164 :: s165 :: s166 :: s167 :: s168 :: s169 :: s170 :: s171 :: s172 :: s173 :: s174 :: s175 :: s176 :: s177 :: s178 :: s179 :: s180 :: s181 :: s182 :: s183 :: s184 :: s185 :: s186 :: s187 :: s188 :: s189 :: s190 :: s191 :: s192 :: s193 :: s194 :: s195 :: s196 :: s197 :: s198 :: s199 :: s200 :: s201 :: s202 :: s203 :: s204 :: s205 :: s206 :: s207 :: s208 :: s209 :: s210 :: s211 :: s212 :: s213 :: s214 :: s215 :: s216 :: s217 :: u218 :: u219 :: u220 :: u221 :: u222 :: u223 :: u224 :: u225 :: u226 :: u227 :: u228 :: u229 :: u230 :: u231 :: u232 :: u233 :: u234 :: u235 :: u236 :: u237 :: u238 :: u239 :: u240 :: u241 :: u242 :: u243 :: u244 :: u245 :: u246 :: u247 :: u248 :: u249 :: u250 :: u251 :: u252 :: u253 :: u254 :: u255 :: u256 :: u257 :: u258 :: u259 :: u260 :: u261 :: s262 :: s263 :: s264 :: s265 :: s266 :: s267 :: s268 :: s269 :: s270 :: s271 :: s272 :: s273 :: s274 :: s275 :: []), []⟩ w') :
    Code.wp Try.prog (blk 2 Try.f13) Q0 ⟨List.toArray (.pointer (some ⟨xb, 0, none⟩) :: s1 :: s2 :: s3 :: s4 :: s5 :: .slice ga gone.length gc :: s7 :: s8 :: s9 :: s10 :: s11 :: s12 :: s13 :: s14 :: .int .i64 0 :: s16 :: s17 :: s18 :: s19 :: s20 :: s21 :: s22 :: s23 :: s24 :: s25 :: s26 :: s27 :: s28 :: s29 :: s30 :: s31 :: s32 :: s33 :: s34 :: s35 :: s36 :: s37 :: s38 :: s39 :: s40 :: s41 :: s42 :: s43 :: s44 :: s45 :: s46 :: s47 :: s48 :: s49 :: s50 :: s51 :: s52 :: s53 :: s54 :: s55 :: s56 :: s57 :: s58 :: s59 :: s60 :: s61 :: s62 :: s63 :: s64 :: s65 :: s66 :: s67 :: s68 :: s69 :: s70 :: s71 :: s72 :: s73 :: s74 :: s75 :: s76 :: s77 :: s78 :: s79 :: s80 :: s81 :: s82 :: s83 :: s84 :: s85 :: s86 :: s87 :: s88 :: s89 :: s90 :: s91 :: s92 :: s93 :: s94 :: s95 :: s96 :: s97 :: s98 :: s99 :: s100 :: s101 :: s102 :: s103 :: s104 :: s105 :: s106 :: s107 :: s108 :: s109 :: s110 :: s111 :: s112 :: s113 :: s114 :: s115 :: s116 :: s117 :: s118 :: s119 :: s120 :: s121 :: s122 :: s123 :: s124 :: s125 :: s126 :: s127 :: s128 :: s129 :: s130 :: s131 :: s132 :: s133 :: s134 :: s135 :: s136 :: s137 :: s138 :: s139 :: s140 :: s141 :: s142 :: s143 :: s144 :: s145 :: s146 :: s147 :: s148 :: s149 :: s150 :: s151 :: s152 :: s153 :: s154 :: s155 :: s156 :: s157 :: s158 :: s159 :: s160 :: s161 :: s162 :: s163 :: s164 :: s165 :: s166 :: s167 :: s168 :: s169 :: s170 :: s171 :: s172 :: s173 :: s174 :: s175 :: s176 :: s177 :: s178 :: s179 :: s180 :: s181 :: s182 :: s183 :: s184 :: s185 :: s186 :: s187 :: s188 :: s189 :: s190 :: s191 :: s192 :: s193 :: s194 :: s195 :: s196 :: s197 :: s198 :: s199 :: s200 :: s201 :: s202 :: s203 :: s204 :: s205 :: s206 :: s207 :: s208 :: s209 :: s210 :: s211 :: s212 :: s213 :: s214 :: s215 :: s216 :: s217 :: s218 :: s219 :: s220 :: s221 :: s222 :: s223 :: s224 :: s225 :: s226 :: s227 :: s228 :: s229 :: s230 :: s231 :: s232 :: s233 :: s234 :: s235 :: s236 :: s237 :: s238 :: s239 :: s240 :: s241 :: s242 :: s243 :: s244 :: s245 :: s246 :: s247 :: s248 :: s249 :: s250 :: s251 :: s252 :: s253 :: s254 :: s255 :: s256 :: s257 :: s258 :: s259 :: s260 :: s261 :: s262 :: s263 :: s264 :: s265 :: s266 :: s267 :: s268 :: s269 :: s270 :: s271 :: s272 :: s273 :: s274 :: s275 :: []), []⟩ w := by
  have HX := Lib.hid hexit
  have HF := Lib.hid h
  have HG := Lib.hid hg
  clear h hexit hg
  conv => arg 2; whnf
  go_wp2_with fail
  go_loopg [15] gone.length (fun gm iv wr => ∃ (k : Nat) (own' : OwnR) (mv' fv' sv' : Value), k ≤ gone.length ∧ gm = gone.length - k ∧ iv = .int .i64 k ∧ LifeF wr own' xb pb m1 m2 (D.gave gone k) mv' fv' sv' pv ∧ OStep w own wr own')
  case atStart => exact ⟨0, own, mv, fv, sv, by omega, rfl, rfl, by have := HF.out; unfold LD.gave; simpa using this, OStep.refl _ _⟩
  case round =>
    obtain ⟨k, own1, mv1, fv1, sv1, hk, hgm, rfl, hF, hS⟩ := hrel
    have Hg := Lib.hid hgm
    have HF1 := Lib.hid hF
    have HS1 := Lib.hid hS
    have HG1 := Lib.hid (HG.out.step hS)
    clear hgm hF hS
    by_cases hlt : k < gone.length
    · obtain ⟨x, hx⟩ : ∃ x, gone[k]? = some x := ⟨_, List.getElem?_eq_getElem hlt⟩
      obtain ⟨ad, rfl⟩ : ∃ ad, ga = some ad := by
        obtain ⟨a4, c4, e4, h4, _⟩ := HG.out.sees
        cases e4
        cases ga with
        | none => have := h4 rfl; subst this; simp at hlt
        | some ad => exact ⟨ad, rfl⟩
      have HX1 := Lib.hid hx
      have key : ∀ (w2 : World) (own2 : OwnR), OStep wr own1 w2 own2 → w2.cell? (ad.add k) = some (.int .i64 x) := fun w2 own2 hs => by
        obtain ⟨a4, c4, e4, _, h4⟩ := (HG1.out.step hs).sees
        cases e4
        exact h4 ad rfl k x hx
      have Key := Lib.hid key
      have HSucc := Lib.hid (D.gave_succ hx)
      have hm1 : (D.gave gone k).mine.length ≤ 1000000 := Nat.le_trans (erases_len _ _) hl1
      have hm2 : (D.gave gone k).fs.length ≤ 1000000 := by unfold LD.gave; simp only [List.length_append, List.length_take]; omega
      have hm3 : (D.gave gone k).ss.length ≤ 1000000 := by unfold LD.gave; simp only [List.length_append, List.length_replicate]; omega
      have HM := Lib.hid (And.intro hm1 (And.intro hm2 hm3))
      have hki : (k : Int) < (gone.length : Int) := by omega
      clear hx key hm1 hm2 hm3
      go_upto_region 30 with fail
      refine tn_mine HF1.out k x (Key.out _ _ (OStep.refl _ _)) hlt HM.out.1 ?_
      intro u224 u225 u226 u227 u228 u229 u230 u231 u232 u233 u234 u235 w2 h2
      obtain ⟨own2, mv2, h2, s2⟩ := h2
      have HF2 := Lib.hid h2
      have HS2 := Lib.hid s2
      clear h2 s2
      go_upto_region 31 with fail
      refine tn_free HF2.out k x (Key.out _ _ HS2.out) hlt HM.out.2.1 ?_
      intro u236 u237 u238 u239 u240 u241 u242 u243 u244 u245 u246 u247 u248 w3 h3
      obtain ⟨own3, fv3, h3, s3⟩ := h3
      have HF3 := Lib.hid h3
      have HS3 := Lib.hid (HS2.out.trans s3)
      clear h3 s3
      go_upto_region 32 with fail
      refine tn_since HF3.out HM.out.2.2 ?_
      intro u249 u250 u251 u252 u253 u254 u255 u256 u257 u258 u259 u260 u261 w4 h4
      obtain ⟨own4, sv4, h4, s4⟩ := h4
      have HF4 : Hid (LifeF w4 own4 xb pb m1 m2 (D.gave gone (k + 1)) mv2 fv3 sv4 pv) := Lib.hid (by rw [HSucc.out]; exact h4)
      have HS4 := Lib.hid (HS1.out.trans (HS3.out.trans s4))
      clear h4 s4
      go_wp2_with fail
      go_roundg (gone.length - (k + 1))
      case measure => have := Hg.out; omega
      case rel => exact ⟨k + 1, own4, mv2, fv3, sv4, by omega, rfl, by go_num, HF4.out, HS4.out⟩
    · have hkk : k = gone.length := by omega
      have HE : Hid (LifeF wr own1 xb pb m1 m2 (D.gave gone gone.length) mv1 fv1 sv1 pv) := Lib.hid (by rw [← hkk]; exact HF1.out)
      have hki : ¬ (k : Int) < (gone.length : Int) := by omega
      clear hkk
      go_wp2_with fail
      exact HX.out _ ⟨own1, mv1, fv1, sv1, HE.out, HS1.out⟩

theorem drop_key {L : List (Nat × Int)} {i : Nat} {q : Nat × Int} (hL : L.Pairwise fun p q => p.1 ≠ q.1) (hq : L[i]? = some q) :
    (nums L)[i]? = some (q.1 : Int) ∧ (sinces L)[i]? = some q.2 ∧ (q.1 : Int) ∉ (nums L).take i ∧ dropAt (nums L) i = nums (L.filter fun p => p.1 != q.1) ∧ dropAt (sinces L) i = sinces (L.filter fun p => p.1 != q.1) := by
  have e : L = L.take i ++ q :: L.drop (i + 1) := by rw [← dropq hq, List.take_append_drop]
  have hp := hL
  rw [e, List.pairwise_append, List.pairwise_cons] at hp
  have hf : (L.filter fun p => p.1 != q.1) = L.take i ++ L.drop (i + 1) := by
    conv => lhs; rw [e]
    rw [List.filter_append, List.filter_cons]
    have h1 : (q.1 != q.1) = false := by simp
    rw [h1, List.filter_eq_self.2 (fun p hp' => by rw [bne_iff_ne]; exact hp.2.2 p hp' q (by simp)), List.filter_eq_self.2 (fun p hp' => by rw [bne_iff_ne]; exact (hp.2.1.1 p hp').symm)]
    rfl
  refine ⟨by unfold nums; rw [List.getElem?_map, hq]; rfl, by unfold sinces; rw [List.getElem?_map, hq]; rfl, fun hm => ?_, ?_, ?_⟩
  · unfold nums at hm
    rw [← List.map_take] at hm
    obtain ⟨p, hp', e2⟩ := List.mem_map.1 hm
    have := hp.2.2 p hp' q (by simp)
    omega
  · rw [hf]; unfold dropAt nums; rw [List.map_append, List.map_take, List.map_drop]
  · rw [hf]; unfold dropAt sinces; rw [List.map_append, List.map_take, List.map_drop]
end Go.Proofs.Ytipclbibomemjaa
