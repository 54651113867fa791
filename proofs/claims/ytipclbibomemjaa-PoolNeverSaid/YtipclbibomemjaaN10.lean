/- Walks: a life's turn: what is given out, looked at. -/
import Derived.Test.YtipclbibomemjaaN9
import Derived.BigQuiet
namespace Go.Proofs.Ytipclbibomemjaa
open Go Go.RowKit Go.Maps

/-- What the owner looks at. -/
structure Looks (D : LD) (L : List (Nat × Int)) (l us : List Int) (cnt : Nat) : Prop where
  fs : D.fs = nums L
  ss : D.ss = sinces L
  keys : L.Pairwise fun p q => p.1 ≠ q.1
  nodup : l.Nodup
  old : ∀ (i : Nat) (x : Int), l[i]? = some x → i < us.length → us[i]? = some x ∧ ∃ q ∈ L, (q.1 : Int) = x ∧ pinnedK D.pn q.2 = false
  new : ∀ (i : Nat) (x : Int), l[i]? = some x → us.length ≤ i → x = ((cnt + (i - us.length) : Nat) : Int) ∧ ∀ q ∈ L, (q.1 : Int) ≠ x
  lo : ∀ x ∈ l, 2 ≤ x
  far : ∀ x ∈ l, x ∉ D.mine

def LD.took (D : LD) (L : List (Nat × Int)) (l : List Int) (k : Nat) : LD := { D with mine := D.mine ++ l.take k, fs := nums (stays L (l.take k)), ss := sinces (stays L (l.take k)) }
theorem not_take {l : List Int} {k : Nat} {x : Int} (h : l.Nodup) (hx : l[k]? = some x) : x ∉ l.take k := by
  intro hm
  obtain ⟨i, hi, e⟩ := List.mem_take_iff_getElem.1 hm
  have hk := List.getElem?_eq_some_iff.1 hx
  have := (List.getElem_inj (h₀ := by omega) (h₁ := hk.1) h).1 (e.trans hk.2.symm)
  omega
theorem stays_keys {L : List (Nat × Int)} (h : L.Pairwise fun p q => p.1 ≠ q.1) (out : List Int) : (stays L out).Pairwise fun p q => p.1 ≠ q.1 := h.filter _
theorem took_succ_new {D : LD} {L : List (Nat × Int)} {l : List Int} {k : Nat} {x : Int} (hx : l[k]? = some x) (hn : ∀ q ∈ L, (q.1 : Int) ≠ x) : D.took L l (k + 1) = { D.took L l k with mine := (D.took L l k).mine ++ [x] } := by
  have hs : stays L (l.take (k + 1)) = stays L (l.take k) := by
    unfold stays
    refine List.filter_congr fun q hq => ?_
    rw [take_snoc hx, List.contains_append]
    have : ([x].contains (q.1 : Int)) = false := by
      rw [List.contains_eq_mem]
      apply decide_eq_false
      intro h; simp at h; exact hn q hq h
    rw [this, Bool.or_false]
  unfold LD.took
  rw [hs, take_snoc hx, List.append_assoc]
theorem took_succ_old {D : LD} {L : List (Nat × Int)} {l : List Int} {k : Nat} {q : Nat × Int} (hx : l[k]? = some (q.1 : Int)) {i : Nat} (hL : L.Pairwise fun p q => p.1 ≠ q.1) (hq : (stays L (l.take k))[i]? = some q) :
    D.took L l (k + 1) = { D.took L l k with mine := (D.took L l k).mine ++ [(q.1 : Int)], fs := dropAt (D.took L l k).fs i, ss := dropAt (D.took L l k).ss i } := by
  obtain ⟨_, _, _, d1, d2⟩ := drop_key (stays_keys hL _) hq
  have hs : stays L (l.take (k + 1)) = (stays L (l.take k)).filter fun p => p.1 != q.1 := by rw [stays_snoc, take_snoc hx]
  unfold LD.took
  simp only
  rw [hs, d1, d2, take_snoc hx, List.append_assoc]

set_option maxRecDepth 100000 in
set_option maxHeartbeats 8000000 in
theorem tn_take {Q0 : Exit → Act → World → Prop} {s1 s2 s3 s4 s5 s6 s9 s10 s12 s14 s15 s16 s17 s18 s19 s20 s21 s22 s23 s24 s25 s26 s27 s28 s29 s30 s31 s32 s33 s34 s35 s36 s37 s38 s39 s40 s41 s42 s43 s44 s45 s46 s47 s48 s49 s50 s51 s52 s53 s54 s55 s56 s57 s58 s59 s60 s61 s62 s63 s64 s65 s66 s67 s68 s69 s70 s71 s72 s73 s74 s75 s76 s77 s78 s79 s80 s81 s82 s83 s84 s85 s86 s87 s88 s89 s90 s91 s92 s93 s94 s95 s96 s97 s98 s99 s100 s101 s102 s103 s104 s105 s106 s107 s108 s109 s110 s111 s112 s113 s114 s115 s116 s117 s118 s119 s120 s121 s122 s123 s124 s125 s126 s127 s128 s129 s130 s131 s132 s133 s134 s135 s136 s137 s138 s139 s140 s141 s142 s143 s144 s145 s146 s147 s148 s149 s150 s151 s152 s153 s154 s155 s156 s157 s158 s159 s160 s161 s162 s163 s164 s165 s166 s167 s168 s169 s170 s171 s172 s173 s174 s175 s176 s177 s178 s179 s180 s181 s182 s183 s184 s185 s186 s187 s188 s189 s190 s191 s192 s193 s194 s195 s196 s197 s198 s199 s200 s201 s202 s203 s204 s205 s206 s207 s208 s209 s210 s211 s212 s213 s214 s215 s216 s217 s218 s219 s220 s221 s222 s223 s224 s225 s226 s227 s228 s229 s230 s231 s232 s233 s234 s235 s236 s237 s238 s239 s240 s241 s242 s243 s244 s245 s246 s247 s248 s249 s250 s251 s252 s253 s254 s255 s256 s257 s258 s259 s260 s261 s262 s263 s264 s265 s266 s267 s268 s269 s270 s271 s272 s273 s274 s275 : Value} {w : World} {own : OwnR} {xb pb m1 m2 : Nat} {D : LD} {mv fv sv pv : Value} (h : LifeF w own xb pb m1 m2 D mv fv sv pv) {la ua : Option Addr} {lc uc : Nat} {l us : List Int} {L : List (Nat × Int)} {cnt : Nat} (hl : Kept w own (.slice la l.length lc) l) (hu : Kept w own (.slice ua us.length uc) us) (hk : Looks D L l us cnt) (hl1 : D.mine.length + l.length ≤ 1000000) (hl2 : L.length ≤ 1000000) (hl3 : D.pn.length ≤ 1000000) (hcn : cnt ≤ 1000000) (hul : us.length ≤ 1000000)
    (hexit : ∀ ⦃u4 u13 u14 u167 u168 u169 u170 u171 u172 u173 u174 u175 u176 u177 u178 u179 u180 u181 u182 u183 u184 u185 u186 u187 u188 u189 u190 u191 u192 u193 u194 u195 u196 u197 u198 u199 u200 u201 u202 u203 u204 u205 u206 u207 u208 u209 u210 u211 u212 u213 u214 u215 u216 u217 : Value⦄ (w' : World), (∃ own' mv' fv' sv' pv', LifeF w' own' xb pb m1 m2 (D.took L l l.length) mv' fv' sv' pv' ∧ OStep w own w' own') → Q0 .normal ⟨List.toArray (.pointer (some ⟨xb, 0, none⟩) :: s1 :: s2 :: s3 :: u4 :: s5 :: s6 :: .int .i64 cnt :: .slice ua us.length uc :: s9 :: s10 :: .slice la l.length lc :: s12 :: u13 :: u14 :: s15 :: s16 :: s17 :: s18 :: s19 :: s20 :: s21 :: s22 :: s23 :: s24 :: s25 :: s26 :: s27 :: s28 :: s29 :: s30 :: s31 :: s32 :: s33 :: s34 :: s35 :: s36 :: s37 :: s38 :: s39 :: s40 :: s41 :: s42 :: s43 :: s44 :: s45 :: s46 :: s47 :: s48 :: s49 :: s50 :: s51 :: s52 :: s53 :: s54 :: s55 :: s56 :: s57 :: s58 :: s59 :: s60 :: s61 :: s62 :: s63 :: s64 :: s65 :: s66 :: s67 :: s68 :: s69 :: s70 :: s71 :: s72 :: s73 :: s74 :: s75 :: s76 :: s77 :: s78 :: s79 :: s80 :: s81 :: s82 :: s83 :: s84 :: s85 :: s86 :: s87 :: s88 :: s89 :: s90 :: s91 :: s92 :: s93 :: s94 :: s95 :: s96 :: s97 :: s98 :: s99 :: s100 :: s101 :: s102 :: s103 :: s104 :: s105 :: s106 :: s107 :: s108 :: s109 :: s110 :: s111 :: s112 :: s113 :: s114 :: s115 :: s116 :: s117 :: s118 :: s119 :: s120 :: s121 :: s122 :: s123 :: s124 :: s125 :: s126 :: s127 :: s128 :: s129 :: s130 :: s131 :: s132 :: s133 :: s134 :: s135 :: s136 :: s137 :: s138 :: s139 :: s140 :: s141 :: s142 :: s143 :: s144 :: s145 :: s146 :: s147 :: s148 :: s149 :: s150 :: s151 :: s152 :: s153 :: s154 :: s155 :: s156 :: s157 :: s158 :: s159 :: s160 :: s161 :: s162 :: s163 :: s164 :: s165 :: s166 :: u167 :: u168 :: u169 :: u170 :: u171 :: u172 :: u173 :: u174 :: u175 :: u176 :: u177 :: u178 :: u179 :: u180 :: u181 :: u182 :: u183 :: u184 :: u185 :: u186 :: u187 :: u188 :: u189 :: u190 :: u191 :: u192 :: u193 :: u194 :: u195 :: u196 :: u197 :: u198 :: u199 :: u200 :: u201 :: u202 :: u203 :: u204 :: u205 :: u206 :: u207 :: u208 :: u209 :: u210 :: u211 :: u212 :: u213 :: u214 :: u215 :: u216 :: u217 :: s218 :: s219 :: s220 :: s221 :: s222 :: s223 :: s224 :: s225 :: s226 :: s227 :: s228 :: s229 :: s230 :: s231 :: s232 :: s233 :: s234 :: s235 :: s236 :: s237 :: s238 :: s239 :: s240 :: s241 :: s242 :: s243 :: s244 :: s245 :: s246 :: s247 :: s248 :: s249 :: s250 :: s251 :: s252 :: s253 :: s254 :: s255 :: s256 :: s257 :: s258 :: s259 :: s260 :: s261 :: s262 :: s263 :: s264 :: s265 :: s266 :: s267 :: s268 :: s269 :: s270 :: s271 :: s272 :: s273 :: s274 :: s275 :: []), []⟩ w') :
    Code.wp Try.prog (blk 0 Try.f13) Q0 ⟨List.toArray (.pointer (some ⟨xb, 0, none⟩) :: s1 :: s2 :: s3 :: s4 :: s5 :: s6 :: .int .i64 cnt :: .slice ua us.length uc :: s9 :: s10 :: .slice la l.length lc :: s12 :: .int .i64 0 :: s14 :: s15 :: s16 :: s17 :: s18 :: s19 :: s20 :: s21 :: s22 :: s23 :: s24 :: s25 :: s26 :: s27 :: s28 :: s29 :: s30 :: s31 :: s32 :: s33 :: s34 :: s35 :: s36 :: s37 :: s38 :: s39 :: s40 :: s41 :: s42 :: s43 :: s44 :: s45 :: s46 :: s47 :: s48 :: s49 :: s50 :: s51 :: s52 :: s53 :: s54 :: s55 :: s56 :: s57 :: s58 :: s59 :: s60 :: s61 :: s62 :: s63 :: s64 :: s65 :: s66 :: s67 :: s68 :: s69 :: s70 :: s71 :: s72 :: s73 :: s74 :: s75 :: s76 :: s77 :: s78 :: s79 :: s80 :: s81 :: s82 :: s83 :: s84 :: s85 :: s86 :: s87 :: s88 :: s89 :: s90 :: s91 :: s92 :: s93 :: s94 :: s95 :: s96 :: s97 :: s98 :: s99 :: s100 :: s101 :: s102 :: s103 :: s104 :: s105 :: s106 :: s107 :: s108 :: s109 :: s110 :: s111 :: s112 :: s113 :: s114 :: s115 :: s116 :: s117 :: s118 :: s119 :: s120 :: s121 :: s122 :: s123 :: s124 :: s125 :: s126 :: s127 :: s128 :: s129 :: s130 :: s131 :: s132 :: s133 :: s134 :: s135 :: s136 :: s137 :: s138 :: s139 :: s140 :: s141 :: s142 :: s143 :: s144 :: s145 :: s146 :: s147 :: s148 :: s149 :: s150 :: s151 :: s152 :: s153 :: s154 :: s155 :: s156 :: s157 :: s158 :: s159 :: s160 :: s161 :: s162 :: s163 :: s164 :: s165 :: s166 :: s167 :: s168 :: s169 :: s170 :: s171 :: s172 :: s173 :: s174 :: s175 :: s176 :: s177 :: s178 :: s179 :: s180 :: s181 :: s182 :: s183 :: s184 :: s185 :: s186 :: s187 :: s188 :: s189 :: s190 :: s191 :: s192 :: s193 :: s194 :: s195 :: s196 :: s197 :: s198 :: s199 :: s200 :: s201 :: s202 :: s203 :: s204 :: s205 :: s206 :: s207 :: s208 :: s209 :: s210 :: s211 :: s212 :: s213 :: s214 :: s215 :: s216 :: s217 :: s218 :: s219 :: s220 :: s221 :: s222 :: s223 :: s224 :: s225 :: s226 :: s227 :: s228 :: s229 :: s230 :: s231 :: s232 :: s233 :: s234 :: s235 :: s236 :: s237 :: s238 :: s239 :: s240 :: s241 :: s242 :: s243 :: s244 :: s245 :: s246 :: s247 :: s248 :: s249 :: s250 :: s251 :: s252 :: s253 :: s254 :: s255 :: s256 :: s257 :: s258 :: s259 :: s260 :: s261 :: s262 :: s263 :: s264 :: s265 :: s266 :: s267 :: s268 :: s269 :: s270 :: s271 :: s272 :: s273 :: s274 :: s275 :: []), []⟩ w := by
  have HX := Lib.hid hexit
  have HF := Lib.hid h
  have HL := Lib.hid hl
  have HU := Lib.hid hu
  have HK := Lib.hid hk
  obtain ⟨ln, hln⟩ : ∃ ln, ln = l.length := ⟨_, rfl⟩
  obtain ⟨un, hun⟩ : ∃ un, un = us.length := ⟨_, rfl⟩
  rw [← hln] at HX HL hl1 ⊢
  rw [← hun] at HX HU hul ⊢
  have HLN := Lib.hid hln
  have HUN := Lib.hid hun
  clear h hexit hl hu hk hln hun
  conv => arg 2; whnf
  go_wp2_with fail
  go_loopg [13] ln (fun gm iv wr => ∃ (k : Nat) (own' : OwnR) (mv' fv' sv' pv' : Value), k ≤ ln ∧ gm = ln - k ∧ iv = .int .i64 k ∧ LifeF wr own' xb pb m1 m2 (D.took L l k) mv' fv' sv' pv' ∧ OStep w own wr own')
  case atStart => exact ⟨0, own, mv, fv, sv, pv, by omega, rfl, rfl, by
    have h1 := HF.out
    have h2 : D.took L l 0 = D := by unfold LD.took; rw [List.take_zero, stays_nil, List.append_nil, ← HK.out.fs, ← HK.out.ss]
    rw [h2]; exact h1, OStep.refl _ _⟩
  case round =>
    obtain ⟨k, own1, mv1, fv1, sv1, pv1, hkl, hgm, rfl, hF, hS⟩ := hrel
    have Hg := Lib.hid hgm
    have HF1 := Lib.hid hF
    have HS1 := Lib.hid hS
    have HL1 := Lib.hid (HL.out.step hS)
    have HU1 := Lib.hid (HU.out.step hS)
    clear hgm hF hS
    by_cases hlt : k < ln
    · obtain ⟨x, hx⟩ : ∃ x, l[k]? = some x := ⟨_, List.getElem?_eq_getElem (by rw [← HLN.out]; exact hlt)⟩
      obtain ⟨ad, rfl⟩ : ∃ ad, la = some ad := by
        obtain ⟨a4, c4, e4, h4, _⟩ := HL.out.sees
        cases e4
        cases la with
        | none => have := h4 rfl; subst this; simp at hx
        | some ad => exact ⟨ad, rfl⟩
      have HX1 := Lib.hid hx
      have cx : wr.cell? (ad.add k) = some (.int .i64 x) := by
        obtain ⟨a4, c4, e4, _, h4⟩ := HL1.out.sees
        cases e4
        exact h4 ad rfl k x hx
      have hlo := HK.out.lo x (List.mem_of_getElem? hx)
      have HM : Hid (x ∉ (D.took L l k).mine) := Lib.hid (fun hm => by
        unfold LD.took at hm
        rcases List.mem_append.1 hm with e | e
        · exact HK.out.far x (List.mem_of_getElem? hx) e
        · exact not_take HK.out.nodup hx e)
      have hb1 : (D.took L l k).mine.length ≤ 1000000 := by unfold LD.took; simp only [List.length_append, List.length_take]; omega
      have hst : (stays L (l.take k)).length ≤ 1000000 := Nat.le_trans (List.length_filter_le _ _) hl2
      have hb2 : (D.took L l k).fs.length ≤ 1000000 := by unfold LD.took; simp only [nums_length]; exact hst
      have hb3 : (D.took L l k).ss.length ≤ 1000000 := by unfold LD.took sinces; simp only [List.length_map]; exact hst
      have HB := Lib.hid (And.intro hb1 (And.intro hb2 hb3))
      have hki : (k : Int) < (ln : Int) := by omega
      have hk0 : (0 : Int) ≤ (k : Int) := by omega
      clear hx hb1 hb2 hb3 hst
      by_cases hku : k < un
      · obtain ⟨hus, q, hq, hqx, hqp⟩ := HK.out.old k x HX1.out (by rw [← HUN.out]; exact hku)
        subst hqx
        have hqs : q ∈ stays L (l.take k) := by
          unfold stays
          rw [List.mem_filter]
          refine ⟨hq, ?_⟩
          rw [Bool.not_eq_true', List.contains_eq_mem]
          exact decide_eq_false (not_take HK.out.nodup HX1.out)
        obtain ⟨i, hi⟩ := List.mem_iff_getElem?.1 hqs
        obtain ⟨d1, d2, d3, _, _⟩ := drop_key (stays_keys HK.out.keys _) hi
        have HSucc := Lib.hid (took_succ_old (D := D) HX1.out HK.out.keys hi)
        have HC := Lib.hid (taken_old HF1.out (q.1 : Int) cnt HM.out hlo i q.2 d1 d3 d2 hqp HB.out.1 HB.out.2.1 HB.out.2.2 hl3)
        obtain ⟨ud, rfl⟩ : ∃ ud, ua = some ud := by
          obtain ⟨a4, c4, e4, h4, _⟩ := HU.out.sees
          cases e4
          cases ua with
          | none => have := h4 rfl; subst this; simp at hus
          | some ad => exact ⟨ad, rfl⟩
        have HUs := Lib.hid hus
        have b1 : decide (k < un) = true := decide_eq_true hku
        have b2 : decide (un ≤ k) = false := decide_eq_false (by omega)
        clear hq hqp hqs hi d1 d2 d3 hus
        go_wp2_with fail
        refine HC.out.mono ?_
        rintro e w2 ⟨rfl, own2, mv2, fv2, sv2, pv2, h2, s2⟩
        have HF2 : Hid (LifeF w2 own2 xb pb m1 m2 (D.took L l (k + 1)) mv2 fv2 sv2 pv2) := Lib.hid (by rw [HSucc.out]; exact h2)
        have dx : w2.cell? (ad.add k) = some (.int .i64 q.1) := by
          obtain ⟨a4, c4, e4, _, h4⟩ := (HL1.out.step s2).sees
          cases e4
          exact h4 ad rfl k _ HX1.out
        have du : w2.cell? (ud.add k) = some (.int .i64 q.1) := by
          obtain ⟨a4, c4, e4, _, h4⟩ := (HU1.out.step s2).sees
          cases e4
          exact h4 ud rfl k _ HUs.out
        have HS2 := Lib.hid (HS1.out.trans s2)
        have hku2 : (k : Int) < (un : Int) := by omega
        clear h2 s2 cx
        go_wp2_with fail
        go_quiet (fail)
        go_wp2_with fail
        go_roundg (ln - (k + 1))
        case measure => have := Hg.out; omega
        case rel => exact ⟨k + 1, own2, mv2, fv2, sv2, pv2, by omega, rfl, by go_num, HF2.out.chg0 ((Chg.refl (fun _ => False) w2).drewN _), HS2.out.trans (OStep.of0 own2 ((Chg.refl (fun _ => False) w2).drewN _))⟩
      · obtain ⟨hxv, hnq⟩ := HK.out.new k x HX1.out (by rw [← HUN.out]; omega)
        rw [← HUN.out] at hxv
        have hnf : x ∉ (D.took L l k).fs := fun hm => by
          unfold LD.took nums at hm
          obtain ⟨q, hq, e⟩ := List.mem_map.1 hm
          exact hnq q (List.mem_filter.1 hq).1 e
        have hcx : (cnt : Int) ≤ x := by omega
        have HSucc := Lib.hid (took_succ_new (D := D) HX1.out hnq)
        have HC := Lib.hid (taken_new HF1.out x cnt HM.out hlo hnf HB.out.1 HB.out.2.1)
        have b1 : decide (k < un) = false := decide_eq_false hku
        have b2 : decide (un ≤ k) = true := decide_eq_true (by omega)
        have HDc : Hid (decide ((cnt : Int) ≤ x) = true) := Lib.hid (decide_eq_true hcx)
        have hw1 : IntKind.i64.wrap ((cnt : Int) + (k : Int)) = (cnt : Int) + (k : Int) := wrapI (by omega) (by omega)
        have hw2 : IntKind.i64.wrap ((cnt : Int) + (k : Int) - (un : Int)) = x := by rw [wrapI (by omega) (by omega)]; omega
        have Hw := Lib.hid (And.intro hw1 hw2)
        clear hnq hnf hcx hw1 hw2 hxv
        go_wp2_with fail
        refine HC.out.mono ?_
        rintro e w2 ⟨rfl, own2, mv2, fv2, sv2, pv2, h2, s2⟩
        rw [HDc.out]
        have HF2 : Hid (LifeF w2 own2 xb pb m1 m2 (D.took L l (k + 1)) mv2 fv2 sv2 pv2) := Lib.hid (by rw [HSucc.out]; exact h2)
        have dx : w2.cell? (ad.add k) = some (.int .i64 x) := by
          obtain ⟨a4, c4, e4, _, h4⟩ := (HL1.out.step s2).sees
          cases e4
          exact h4 ad rfl k _ HX1.out
        have HS2 := Lib.hid (HS1.out.trans s2)
        clear h2 s2 cx
        go_wp2_with fail
        obtain ⟨hw1, hw2⟩ := Hw.out
        go_quiet (fail)
        clear hw1 hw2
        go_wp2_with fail
        go_roundg (ln - (k + 1))
        case measure => have := Hg.out; omega
        case rel => exact ⟨k + 1, own2, mv2, fv2, sv2, pv2, by omega, rfl, by go_num, HF2.out.chg0 ((Chg.refl (fun _ => False) w2).drewN _), HS2.out.trans (OStep.of0 own2 ((Chg.refl (fun _ => False) w2).drewN _))⟩
    · have hkk : k = ln := by omega
      have HE : Hid (LifeF wr own1 xb pb m1 m2 (D.took L l ln) mv1 fv1 sv1 pv1) := Lib.hid (by rw [← hkk]; exact HF1.out)
      have hki : ¬ (k : Int) < (ln : Int) := by omega
      clear hkk
      go_wp2_with fail
      exact HX.out _ ⟨own1, mv1, fv1, sv1, pv1, HE.out, HS1.out⟩
end Go.Proofs.Ytipclbibomemjaa
