/- The law DiskCrashes: its third loop: what the fates leave. -/
import Derived.Test.YtckioocahmbhkaaC7
import Derived.WalkKit
import Derived.Outline
import Derived.Deep.DeepCutAuto
import Derived.Deep.LoopGhost
import Derived.Deep.CutBlock
import Derived.Deep.RegionHeld3
namespace Go.Proofs.Ytckioocahmbhkaa
open Go Go.RowKit Go.Maps Go.MuLone

theorem rep_take {α : Type} (n m : Nat) (x : α) (h : n ≤ m) : (rep m x).take n = rep n x := by simp [rep, Nat.min_eq_left h]
theorem layL_fill {B : List (List UInt8)} {I n : Nat} {y : UInt8} {p : List UInt8} (hn : n ≤ 4096) (hp : (B ++ rep (I + 1 - B.length) zpage)[I]? = some p) : layL B I (rep 4096 y) n = (B ++ rep (I + 1 - B.length) zpage).set I (rep n y ++ p.drop n) := by
  unfold layL
  rw [List.getD_eq_getElem?_getD, hp, Option.getD_some, rep_take n 4096 y hn]
theorem fate_torn {B : List (List UInt8)} {I : Nat} {y : UInt8} {p : List UInt8} {f : Int × Int} (hf : f.1 = 2) (hp : (B ++ rep (I + 1 - B.length) zpage)[I]? = some p) :
    fateL B (I, rep 4096 y) f = (B ++ rep (I + 1 - B.length) zpage).set I (rep (tornN f.2).toNat y ++ p.drop (tornN f.2).toNat) := by
  unfold fateL
  rw [if_neg (by omega), if_pos hf]
  exact layL_fill (by unfold tornN; omega) hp
theorem fate_kept {B : List (List UInt8)} {I : Nat} {y : UInt8} {p : List UInt8} {f : Int × Int} (hf : f.1 = 1) (hp : (B ++ rep (I + 1 - B.length) zpage)[I]? = some p) :
    fateL B (I, rep 4096 y) f = (B ++ rep (I + 1 - B.length) zpage).set I (rep (tornN 4096).toNat y ++ p.drop (tornN 4096).toNat) := by
  unfold fateL
  rw [if_pos hf]
  exact layL_fill (n := (tornN 4096).toNat) (by unfold tornN; omega) hp
theorem fate_lost {B : List (List UInt8)} {I : Nat} {y : UInt8} {f : Int × Int} (h1 : ¬ f.1 = 1) (h2 : ¬ f.1 = 2) : fateL B (I, rep 4096 y) f = B := by
  unfold fateL
  rw [if_neg h1, if_neg h2]

theorem grown_page {B : List (List UInt8)} {I : Nat} (hB : ∀ p ∈ B, p.length = 4096) : ∃ p, (B ++ rep (I + 1 - B.length) zpage)[I]? = some p ∧ p.length = 4096 := by
  have hl : I < (B ++ rep (I + 1 - B.length) zpage).length := by rw [List.length_append, rep_length]; omega
  refine ⟨_, List.getElem?_eq_getElem hl, ?_⟩
  have hm := List.getElem_mem hl
  rcases List.mem_append.1 hm with e | e
  · exact hB _ e
  · have : ∀ x ∈ rep (I + 1 - B.length) zpage, x = zpage := fun x hx => by simp only [rep, List.mem_replicate] at hx; exact hx.2
    rw [this _ e, zpage_length]

set_option maxRecDepth 100000 in
set_option maxHeartbeats 4000000 in
theorem dc_loop3 {Q0 : Exit → Act → World → Prop} {s0 s1 s3 s4 s5 s6 s7 s8 s10 s11 s12 s13 s14 s15 s17 s19 s20 s21 s22 s23 s24 s25 s26 s27 s28 s29 s30 s31 s32 s33 s34 s35 s36 s37 s38 s39 s40 s41 s42 s43 s44 s45 s46 s47 s48 s49 s50 s51 s52 s53 s54 s55 s56 s57 s58 s59 s60 s61 s62 s63 s64 s65 s66 s67 s68 s69 s70 s71 s72 s73 s74 s75 s76 s77 s78 s79 s80 s81 s82 s83 s84 s85 s86 s87 s88 s89 s90 s91 s92 s93 s94 s95 s96 s97 s98 s99 s100 s101 s102 s103 s104 s105 s106 s107 s108 s109 s110 s111 s112 s113 s114 s115 s116 s117 s118 s119 s120 s121 s122 s123 s124 s125 s126 s127 s128 s129 s130 s131 s132 s133 s134 s135 s136 s137 s138 s139 s140 s141 s142 s143 s144 s145 s146 s147 s148 s149 s150 s151 s152 s153 s154 s155 s156 s157 s158 s159 s160 s161 s162 s163 s164 s165 s166 s167 s168 s169 s170 s171 s172 s173 s174 s175 s176 s177 s178 s179 s180 s181 s182 s183 s184 s185 s186 s187 s188 s189 s190 s191 s192 s193 s194 s195 s196 s197 s198 s199 s200 s201 s202 s203 s204 s205 s206 s207 s208 s209 s210 s211 s212 s213 s214 s215 s216 s217 s218 s219 s220 s221 s222 s223 s224 s225 s226 s227 s228 s229 s230 s231 s232 s233 s234 s235 s236 s237 s238 s239 s240 s241 s242 s243 s244 s245 s246 s247 s248 s249 s250 s251 s252 s253 s254 s255 s256 s257 s258 s259 s260 s261 s262 s263 s264 s265 s266 s267 s268 s269 s270 s271 s272 s273 s274 s275 s276 s277 s278 s279 s280 s281 s282 s283 s284 s285 s286 s287 : Value} (w0 w : World) (b : Nat) (D : DS) (fa : Option Addr) (fc : Nat) (fs : List (Int × Int)) (hf : FatesA w0 (.slice fa fs.length fc) fs) (bv : Value) (L : List (List UInt8)) (da : Option Addr) (dc : Nat) (dn : List (Nat × UInt8)) (hp : Ph3 w0 w b D bv L (.slice da dn.length dc) dn) (hdl : dn.length ≤ 20) (hI : ∀ q ∈ dn, q.1 < 40) (hL : L.length ≤ 40) (hpg : ∀ p ∈ L, p.length = 4096)
    (hexit : ∀ ⦃u9 u18 u19 u20 u21 u139 u140 u141 u142 u143 u144 u145 u146 u147 u148 u149 u150 u151 u152 u153 u154 u155 u156 u157 u158 u159 u160 u161 u162 u163 u164 u165 u166 u167 u168 u169 u170 u171 u172 u173 u174 u175 u176 u177 u178 u179 u180 u181 u182 u183 u184 u185 u186 u187 u188 u189 u190 u191 u192 u193 u194 u195 u196 u197 u198 u199 u200 u201 u202 u203 u204 : Value⦄ (w' : World), (Ph3 w0 w' b D u9 (bookF L dn fs) (.slice da dn.length dc) dn) → Q0 .normal ⟨List.toArray (s0 :: s1 :: .slice fa fs.length fc :: s3 :: s4 :: s5 :: s6 :: s7 :: s8 :: u9 :: s10 :: s11 :: s12 :: s13 :: s14 :: s15 :: .slice da dn.length dc :: s17 :: u18 :: u19 :: u20 :: u21 :: s22 :: s23 :: s24 :: s25 :: s26 :: s27 :: s28 :: s29 :: s30 :: s31 :: s32 :: s33 :: s34 :: s35 :: s36 :: s37 :: s38 :: s39 :: s40 :: s41 :: s42 :: s43 :: s44 :: s45 :: s46 :: s47 :: s48 :: s49 :: s50 :: s51 :: s52 :: s53 :: s54 :: s55 :: s56 :: s57 :: s58 :: s59 :: s60 :: s61 :: s62 :: s63 :: s64 :: s65 :: s66 :: s67 :: s68 :: s69 :: s70 :: s71 :: s72 :: s73 :: s74 :: s75 :: s76 :: s77 :: s78 :: s79 :: s80 :: s81 :: s82 :: s83 :: s84 :: s85 :: s86 :: s87 :: s88 :: s89 :: s90 :: s91 :: s92 :: s93 :: s94 :: s95 :: s96 :: s97 :: s98 :: s99 :: s100 :: s101 :: s102 :: s103 :: s104 :: s105 :: s106 :: s107 :: s108 :: s109 :: s110 :: s111 :: s112 :: s113 :: s114 :: s115 :: s116 :: s117 :: s118 :: s119 :: s120 :: s121 :: s122 :: s123 :: s124 :: s125 :: s126 :: s127 :: s128 :: s129 :: s130 :: s131 :: s132 :: s133 :: s134 :: s135 :: s136 :: s137 :: s138 :: u139 :: u140 :: u141 :: u142 :: u143 :: u144 :: u145 :: u146 :: u147 :: u148 :: u149 :: u150 :: u151 :: u152 :: u153 :: u154 :: u155 :: u156 :: u157 :: u158 :: u159 :: u160 :: u161 :: u162 :: u163 :: u164 :: u165 :: u166 :: u167 :: u168 :: u169 :: u170 :: u171 :: u172 :: u173 :: u174 :: u175 :: u176 :: u177 :: u178 :: u179 :: u180 :: u181 :: u182 :: u183 :: u184 :: u185 :: u186 :: u187 :: u188 :: u189 :: u190 :: u191 :: u192 :: u193 :: u194 :: u195 :: u196 :: u197 :: u198 :: u199 :: u200 :: u201 :: u202 :: u203 :: u204 :: s205 :: s206 :: s207 :: s208 :: s209 :: s210 :: s211 :: s212 :: s213 :: s214 :: s215 :: s216 :: s217 :: s218 :: s219 :: s220 :: s221 :: s222 :: s223 :: s224 :: s225 :: s226 :: s227 :: s228 :: s229 :: s230 :: s231 :: s232 :: s233 :: s234 :: s235 :: s236 :: s237 :: s238 :: s239 :: s240 :: s241 :: s242 :: s243 :: s244 :: s245 :: s246 :: s247 :: s248 :: s249 :: s250 :: s251 :: s252 :: s253 :: s254 :: s255 :: s256 :: s257 :: s258 :: s259 :: s260 :: s261 :: s262 :: s263 :: s264 :: s265 :: s266 :: s267 :: s268 :: s269 :: s270 :: s271 :: s272 :: s273 :: s274 :: s275 :: s276 :: s277 :: s278 :: s279 :: s280 :: s281 :: s282 :: s283 :: s284 :: s285 :: s286 :: s287 :: []), []⟩ w') :
    Code.wp Try.prog (blk 4 Try.f5) Q0 ⟨List.toArray (s0 :: s1 :: .slice fa fs.length fc :: s3 :: s4 :: s5 :: s6 :: s7 :: s8 :: bv :: s10 :: s11 :: s12 :: s13 :: s14 :: s15 :: .slice da dn.length dc :: s17 :: .int .i64 0 :: s19 :: s20 :: s21 :: s22 :: s23 :: s24 :: s25 :: s26 :: s27 :: s28 :: s29 :: s30 :: s31 :: s32 :: s33 :: s34 :: s35 :: s36 :: s37 :: s38 :: s39 :: s40 :: s41 :: s42 :: s43 :: s44 :: s45 :: s46 :: s47 :: s48 :: s49 :: s50 :: s51 :: s52 :: s53 :: s54 :: s55 :: s56 :: s57 :: s58 :: s59 :: s60 :: s61 :: s62 :: s63 :: s64 :: s65 :: s66 :: s67 :: s68 :: s69 :: s70 :: s71 :: s72 :: s73 :: s74 :: s75 :: s76 :: s77 :: s78 :: s79 :: s80 :: s81 :: s82 :: s83 :: s84 :: s85 :: s86 :: s87 :: s88 :: s89 :: s90 :: s91 :: s92 :: s93 :: s94 :: s95 :: s96 :: s97 :: s98 :: s99 :: s100 :: s101 :: s102 :: s103 :: s104 :: s105 :: s106 :: s107 :: s108 :: s109 :: s110 :: s111 :: s112 :: s113 :: s114 :: s115 :: s116 :: s117 :: s118 :: s119 :: s120 :: s121 :: s122 :: s123 :: s124 :: s125 :: s126 :: s127 :: s128 :: s129 :: s130 :: s131 :: s132 :: s133 :: s134 :: s135 :: s136 :: s137 :: s138 :: s139 :: s140 :: s141 :: s142 :: s143 :: s144 :: s145 :: s146 :: s147 :: s148 :: s149 :: s150 :: s151 :: s152 :: s153 :: s154 :: s155 :: s156 :: s157 :: s158 :: s159 :: s160 :: s161 :: s162 :: s163 :: s164 :: s165 :: s166 :: s167 :: s168 :: s169 :: s170 :: s171 :: s172 :: s173 :: s174 :: s175 :: s176 :: s177 :: s178 :: s179 :: s180 :: s181 :: s182 :: s183 :: s184 :: s185 :: s186 :: s187 :: s188 :: s189 :: s190 :: s191 :: s192 :: s193 :: s194 :: s195 :: s196 :: s197 :: s198 :: s199 :: s200 :: s201 :: s202 :: s203 :: s204 :: s205 :: s206 :: s207 :: s208 :: s209 :: s210 :: s211 :: s212 :: s213 :: s214 :: s215 :: s216 :: s217 :: s218 :: s219 :: s220 :: s221 :: s222 :: s223 :: s224 :: s225 :: s226 :: s227 :: s228 :: s229 :: s230 :: s231 :: s232 :: s233 :: s234 :: s235 :: s236 :: s237 :: s238 :: s239 :: s240 :: s241 :: s242 :: s243 :: s244 :: s245 :: s246 :: s247 :: s248 :: s249 :: s250 :: s251 :: s252 :: s253 :: s254 :: s255 :: s256 :: s257 :: s258 :: s259 :: s260 :: s261 :: s262 :: s263 :: s264 :: s265 :: s266 :: s267 :: s268 :: s269 :: s270 :: s271 :: s272 :: s273 :: s274 :: s275 :: s276 :: s277 :: s278 :: s279 :: s280 :: s281 :: s282 :: s283 :: s284 :: s285 :: s286 :: s287 :: []), []⟩ w := by
  have HX := Lib.hid hexit
  have HP := Lib.hid hp
  obtain ⟨fa', fc', he, hfl, hfc⟩ := hf
  cases he
  have HF := Lib.hid hfc
  have HI := Lib.hid hI
  have Hpg := Lib.hid hpg
  clear hexit hp hI hpg hfc
  conv => arg 2; whnf
  go_wp2_with fail
  go_loopg [9, 18] dn.length (fun g bv iv wr => ∃ k : Nat, k ≤ dn.length ∧ g = dn.length - k ∧ iv = .int .i64 k ∧ Ph3 w0 wr b D bv (crashAll L ((doneP dn).take k) fs) (.slice da dn.length dc) dn)
  case atStart => exact ⟨0, by omega, rfl, rfl, HP.out⟩
  case round =>
    obtain ⟨k, hk, hg, rfl, own1, bown1, hS1, hB1, hDn1⟩ := hrel
    have Hg := Lib.hid hg
    have S1 := Lib.hid hS1
    have B1 := Lib.hid hB1
    have Dn1 := Lib.hid hDn1
    clear hg hS1 hB1
    by_cases hlt : k < dn.length
    · by_cases hkf : k < fs.length
      · obtain ⟨dg, rfl⟩ : ∃ dg, da = some ⟨dg, 0, none⟩ := by
          obtain ⟨_, _, e, _, _, hg⟩ := ownsRow_slice hDn1.2.1
          cases e
          exact hg (by omega)
        obtain ⟨q, hq⟩ : ∃ q, dn[k]? = some q := ⟨_, List.getElem?_eq_getElem hlt⟩
        obtain ⟨I, y⟩ := q
        obtain ⟨f, hfk⟩ : ∃ f, fs[k]? = some f := ⟨_, List.getElem?_eq_getElem hkf⟩
        obtain ⟨fg, fo, rfl, hcf⟩ := HF.out (by omega)
        obtain ⟨f1, f2⟩ := hcf k f hfk
        have hfg : fg < w0.heap.size := World.block_lt_of_cell? _ _ f1
        have g1 : wr.cell? ⟨fg, fo + k * 2, none⟩ = some (.int .i64 f.1) := (S1.out.below.cell (p := ⟨fg, fo + k * 2, none⟩) hfg).trans f1
        have g2 : wr.cell? ⟨fg, fo + k * 2 + 1, none⟩ = some (.int .i64 f.2) := (S1.out.below.cell (p := ⟨fg, fo + k * 2 + 1, none⟩) hfg).trans f2
        have hIk : I < 40 := HI.out _ (List.mem_of_getElem? hq)
        obtain ⟨B, hB⟩ : ∃ B, B = crashAll L ((doneP dn).take k) fs := ⟨_, rfl⟩
        have hBl : B.length ≤ 40 := by
          rw [hB]
          refine crashAll_len _ _ _ 40 hL (fun q hq => ?_)
          obtain ⟨q', hq', rfl⟩ := List.mem_map.1 (List.mem_of_mem_take hq)
          exact HI.out _ hq'
        have hsn : crashAll L ((doneP dn).take (k + 1)) fs = fateL B (I, rep 4096 y) f := by rw [hB]; exact crashAll_snoc L (doneP dn) fs k _ f (doneP_get hq) hfk
        have hBp : ∀ p ∈ B, p.length = 4096 := by
          rw [hB]
          refine (crashAll_ok L ((doneP dn).take k) fs Hpg.out (by omega) (fun q hq => ?_) (fun q hq => ?_)).1
          · obtain ⟨q', hq', rfl⟩ := List.mem_map.1 (List.mem_of_mem_take hq)
            exact rep_length _ _
          · obtain ⟨q', hq', rfl⟩ := List.mem_map.1 (List.mem_of_mem_take hq)
            have := HI.out _ hq'; show q'.1 < _; omega
        replace B1 : Hid (Bo w0 wr own1 bown1 u9 B) := by rw [hB]; exact B1
        have Hsn := Lib.hid hsn
        have HBp := Lib.hid hBp
        have Hq := Lib.hid hq
        clear hDn1 hq hfk hcf f1 f2 hB hsn hBp
        by_cases ht : f.1 = 2
        · have ht2 : (f.1 == 2) = true := by rw [beq_iff_eq]; exact ht
          have HT := Lib.hid ht
          clear ht
          go_upto_block 6 with fail
          refine dc_grow w0 wr b D u9 B dg dc dn ⟨own1, bown1, S1.out, B1.out, Dn1.out⟩ k I y Hq.out (by omega) hdl (by omega) hBl ?_
          intro v9 u20 u168 u169 u170 u171 u172 u173 u174 u175 u176 u177 u178 u179 u180 w2 h2
          obtain ⟨p, hp, hpl⟩ := grown_page (I := I) HBp.out
          obtain ⟨B', hB'⟩ : ∃ B', B' = B ++ rep (I + 1 - B.length) zpage := ⟨_, rfl⟩
          have hB'l : B'.length ≤ 50 := by rw [hB', List.length_append, rep_length]; omega
          have hfate : fateL B (I, rep 4096 y) f = B'.set I (rep (tornN (f.2)).toNat y ++ p.drop (tornN (f.2)).toNat) := by rw [hB']; exact fate_torn HT.out hp
          rw [← hB'] at hp h2
          obtain ⟨bg, bc, rfl⟩ : ∃ bg bc, v9 = .slice (some ⟨bg, 0, none⟩) B'.length bc := by
            obtain ⟨_, _, _, h, _⟩ := h2
            obtain ⟨bg, bc, _, _, _, e, _⟩ := h.page hp
            exact ⟨bg, bc, e⟩
          have H2 := Lib.hid h2
          have HP' := Lib.hid hp
          have HPL := Lib.hid hpl
          have HFT := Lib.hid hfate
          clear h2 hp hpl hfate hB'
          go_upto_block 8 with fail
          refine dc_fill w0 w2 b D bg bc B' dg dc dn H2.out k I y Hq.out (by omega) hdl (by omega) hB'l p HP'.out HPL.out (f.2) ?_
          intro u21 u181 u182 u183 u184 u185 u186 u187 u188 u189 u190 u191 u192 u193 u194 u195 u196 u197 u198 u199 u200 u201 u202 u203 u204 w3 h3
          have H3 := Lib.hid h3
          clear h3
          go_wp2_with fail
          go_roundg (dn.length - (k + 1))
          case measure => have := Hg.out; omega
          case rel => exact ⟨k + 1, by omega, rfl, by go_num, by rw [Hsn.out, HFT.out]; exact H3.out⟩
        · have ht2 : (f.1 == 2) = false := by rw [beq_eq_false_iff_ne]; exact ht
          by_cases ht1 : f.1 = 1
          · have ht3 : (f.1 != 1) = false := by rw [bne_eq_false_iff_eq]; exact ht1
            have HT := Lib.hid ht1
            clear ht1 ht
            go_upto_block 6 with fail
            refine dc_grow w0 wr b D u9 B dg dc dn ⟨own1, bown1, S1.out, B1.out, Dn1.out⟩ k I y Hq.out (by omega) hdl (by omega) hBl ?_
            intro v9 u20 u168 u169 u170 u171 u172 u173 u174 u175 u176 u177 u178 u179 u180 w2 h2
            obtain ⟨p, hp, hpl⟩ := grown_page (I := I) HBp.out
            obtain ⟨B', hB'⟩ : ∃ B', B' = B ++ rep (I + 1 - B.length) zpage := ⟨_, rfl⟩
            have hB'l : B'.length ≤ 50 := by rw [hB', List.length_append, rep_length]; omega
            have hfate : fateL B (I, rep 4096 y) f = B'.set I (rep (tornN (4096)).toNat y ++ p.drop (tornN (4096)).toNat) := by rw [hB']; exact fate_kept HT.out hp
            rw [← hB'] at hp h2
            obtain ⟨bg, bc, rfl⟩ : ∃ bg bc, v9 = .slice (some ⟨bg, 0, none⟩) B'.length bc := by
              obtain ⟨_, _, _, h, _⟩ := h2
              obtain ⟨bg, bc, _, _, _, e, _⟩ := h.page hp
              exact ⟨bg, bc, e⟩
            have H2 := Lib.hid h2
            have HP' := Lib.hid hp
            have HPL := Lib.hid hpl
            have HFT := Lib.hid hfate
            clear h2 hp hpl hfate hB'
            go_upto_block 8 with fail
            refine dc_fill w0 w2 b D bg bc B' dg dc dn H2.out k I y Hq.out (by omega) hdl (by omega) hB'l p HP'.out HPL.out (4096) ?_
            intro u21 u181 u182 u183 u184 u185 u186 u187 u188 u189 u190 u191 u192 u193 u194 u195 u196 u197 u198 u199 u200 u201 u202 u203 u204 w3 h3
            have H3 := Lib.hid h3
            clear h3
            go_wp2_with fail
            go_roundg (dn.length - (k + 1))
            case measure => have := Hg.out; omega
            case rel => exact ⟨k + 1, by omega, rfl, by go_num, by rw [Hsn.out, HFT.out]; exact H3.out⟩
          · have ht3 : (f.1 != 1) = true := by rw [bne_iff_ne]; exact ht1
            have HT := Lib.hid (fate_lost (B := B) (I := I) (y := y) ht1 ht)
            clear ht1 ht
            go_wp2_with fail
            go_roundg (dn.length - (k + 1))
            case measure => have := Hg.out; omega
            case rel => exact ⟨k + 1, by omega, rfl, by go_num, by rw [Hsn.out, HT.out]; exact ⟨own1, bown1, S1.out, B1.out, Dn1.out⟩⟩
      · have ht := crashAll_more L (doneP dn) fs k (by omega)
        have HT := Lib.hid ht
        clear ht
        go_wp2_with fail
        refine HX.out wr ⟨own1, bown1, S1.out, ?_, Dn1.out⟩
        have := B1.out
        rw [HT.out] at this
        exact this
    · obtain rfl : k = dn.length := by omega
      have ht : (doneP dn).take dn.length = doneP dn := by rw [List.take_of_length_le (by rw [doneP_length]; omega)]
      have HT := Lib.hid ht
      clear ht
      go_wp2_with fail
      refine HX.out wr ⟨own1, bown1, S1.out, ?_, Dn1.out⟩
      have := B1.out
      rw [HT.out] at this
      exact this

end Go.Proofs.Ytckioocahmbhkaa
