/- The law DiskCrashes: its third loop's inner ones: the book grows; bytes are laid. -/
import Derived.Test.YtckioocahmbhkaaC6
import Derived.WalkKit
import Derived.Outline
import Derived.Deep.DeepCutAuto
import Derived.Deep.LoopGhost
import Derived.Deep.RegionHeld3
namespace Go.Proofs.Ytckioocahmbhkaa
open Go Go.RowKit Go.Maps Go.MuLone

/-- Behind the crash: the disk, the book, what was done. -/
def Ph3 (w0 w : World) (b : Nat) (D : DS) (bv : Value) (B : List (List UInt8)) (dv : Value) (dn : List (Nat × UInt8)) : Prop :=
  ∃ own bown, St w0 w own b D ∧ Bo w0 w own bown bv B ∧ Dn w0 w own bown dv dn

theorem Dn.cells {w0 w : World} {own bown : Own} {dg dc : Nat} {dn : List (Nat × UInt8)} (h : Dn w0 w own bown (.slice (some ⟨dg, 0, none⟩) dn.length dc) dn) {k : Nat} {q : Nat × UInt8} (hq : dn[k]? = some q) :
    w.cell? ⟨dg, k * 2, none⟩ = some (.int .i64 q.1) ∧ w.cell? ⟨dg, k * 2 + 1, none⟩ = some (.int .u8 q.2.toNat) := by
  obtain ⟨e1, e2⟩ := dcells_get dn k q hq
  have hk := (List.getElem?_eq_some_iff.1 hq).1
  have hl := dcells_length dn
  exact ⟨(h.2.1.cellAt (k * 2) (by omega)).trans e1, (h.2.1.cellAt (k * 2 + 1) (by omega)).trans e2⟩

set_option maxRecDepth 100000 in
set_option maxHeartbeats 4000000 in
theorem dc_grow {Q0 : Exit → Act → World → Prop} {s0 s1 s2 s3 s4 s5 s6 s7 s8 s10 s11 s12 s13 s14 s15 s17 s19 s20 s21 s22 s23 s24 s25 s26 s27 s28 s29 s30 s31 s32 s33 s34 s35 s36 s37 s38 s39 s40 s41 s42 s43 s44 s45 s46 s47 s48 s49 s50 s51 s52 s53 s54 s55 s56 s57 s58 s59 s60 s61 s62 s63 s64 s65 s66 s67 s68 s69 s70 s71 s72 s73 s74 s75 s76 s77 s78 s79 s80 s81 s82 s83 s84 s85 s86 s87 s88 s89 s90 s91 s92 s93 s94 s95 s96 s97 s98 s99 s100 s101 s102 s103 s104 s105 s106 s107 s108 s109 s110 s111 s112 s113 s114 s115 s116 s117 s118 s119 s120 s121 s122 s123 s124 s125 s126 s127 s128 s129 s130 s131 s132 s133 s134 s135 s136 s137 s138 s139 s140 s141 s142 s143 s144 s145 s146 s147 s148 s149 s150 s151 s152 s153 s154 s155 s156 s157 s158 s159 s160 s161 s162 s163 s164 s165 s166 s167 s168 s169 s170 s171 s172 s173 s174 s175 s176 s177 s178 s179 s180 s181 s182 s183 s184 s185 s186 s187 s188 s189 s190 s191 s192 s193 s194 s195 s196 s197 s198 s199 s200 s201 s202 s203 s204 s205 s206 s207 s208 s209 s210 s211 s212 s213 s214 s215 s216 s217 s218 s219 s220 s221 s222 s223 s224 s225 s226 s227 s228 s229 s230 s231 s232 s233 s234 s235 s236 s237 s238 s239 s240 s241 s242 s243 s244 s245 s246 s247 s248 s249 s250 s251 s252 s253 s254 s255 s256 s257 s258 s259 s260 s261 s262 s263 s264 s265 s266 s267 s268 s269 s270 s271 s272 s273 s274 s275 s276 s277 s278 s279 s280 s281 s282 s283 s284 s285 s286 s287 : Value} (w0 w : World) (b : Nat) (D : DS) (bv : Value) (B : List (List UInt8)) (dg dc : Nat) (dn : List (Nat × UInt8)) (hp : Ph3 w0 w b D bv B (.slice (some ⟨dg, 0, none⟩) dn.length dc) dn) (k : Nat) (I : Nat) (y : UInt8) (hk : dn[k]? = some (I, y)) (hkk : k ≤ 20) (hdl : dn.length ≤ 20) (hI : I ≤ 40) (hB : B.length ≤ 40)
    (hexit : ∀ ⦃u9 u20 u168 u169 u170 u171 u172 u173 u174 u175 u176 u177 u178 u179 u180 : Value⦄ (w' : World), (Ph3 w0 w' b D u9 (B ++ rep (I + 1 - B.length) zpage) (.slice (some ⟨dg, 0, none⟩) dn.length dc) dn) → Q0 .normal ⟨List.toArray (s0 :: s1 :: s2 :: s3 :: s4 :: s5 :: s6 :: s7 :: s8 :: u9 :: s10 :: s11 :: s12 :: s13 :: s14 :: s15 :: .slice (some ⟨dg, 0, none⟩) dn.length dc :: s17 :: .int .i64 k :: s19 :: u20 :: s21 :: s22 :: s23 :: s24 :: s25 :: s26 :: s27 :: s28 :: s29 :: s30 :: s31 :: s32 :: s33 :: s34 :: s35 :: s36 :: s37 :: s38 :: s39 :: s40 :: s41 :: s42 :: s43 :: s44 :: s45 :: s46 :: s47 :: s48 :: s49 :: s50 :: s51 :: s52 :: s53 :: s54 :: s55 :: s56 :: s57 :: s58 :: s59 :: s60 :: s61 :: s62 :: s63 :: s64 :: s65 :: s66 :: s67 :: s68 :: s69 :: s70 :: s71 :: s72 :: s73 :: s74 :: s75 :: s76 :: s77 :: s78 :: s79 :: s80 :: s81 :: s82 :: s83 :: s84 :: s85 :: s86 :: s87 :: s88 :: s89 :: s90 :: s91 :: s92 :: s93 :: s94 :: s95 :: s96 :: s97 :: s98 :: s99 :: s100 :: s101 :: s102 :: s103 :: s104 :: s105 :: s106 :: s107 :: s108 :: s109 :: s110 :: s111 :: s112 :: s113 :: s114 :: s115 :: s116 :: s117 :: s118 :: s119 :: s120 :: s121 :: s122 :: s123 :: s124 :: s125 :: s126 :: s127 :: s128 :: s129 :: s130 :: s131 :: s132 :: s133 :: s134 :: s135 :: s136 :: s137 :: s138 :: s139 :: s140 :: s141 :: s142 :: s143 :: s144 :: s145 :: s146 :: s147 :: s148 :: s149 :: s150 :: s151 :: s152 :: s153 :: s154 :: s155 :: s156 :: s157 :: s158 :: s159 :: s160 :: s161 :: s162 :: s163 :: s164 :: s165 :: s166 :: s167 :: u168 :: u169 :: u170 :: u171 :: u172 :: u173 :: u174 :: u175 :: u176 :: u177 :: u178 :: u179 :: u180 :: s181 :: s182 :: s183 :: s184 :: s185 :: s186 :: s187 :: s188 :: s189 :: s190 :: s191 :: s192 :: s193 :: s194 :: s195 :: s196 :: s197 :: s198 :: s199 :: s200 :: s201 :: s202 :: s203 :: s204 :: s205 :: s206 :: s207 :: s208 :: s209 :: s210 :: s211 :: s212 :: s213 :: s214 :: s215 :: s216 :: s217 :: s218 :: s219 :: s220 :: s221 :: s222 :: s223 :: s224 :: s225 :: s226 :: s227 :: s228 :: s229 :: s230 :: s231 :: s232 :: s233 :: s234 :: s235 :: s236 :: s237 :: s238 :: s239 :: s240 :: s241 :: s242 :: s243 :: s244 :: s245 :: s246 :: s247 :: s248 :: s249 :: s250 :: s251 :: s252 :: s253 :: s254 :: s255 :: s256 :: s257 :: s258 :: s259 :: s260 :: s261 :: s262 :: s263 :: s264 :: s265 :: s266 :: s267 :: s268 :: s269 :: s270 :: s271 :: s272 :: s273 :: s274 :: s275 :: s276 :: s277 :: s278 :: s279 :: s280 :: s281 :: s282 :: s283 :: s284 :: s285 :: s286 :: s287 :: []), []⟩ w') :
    Code.wp Try.prog (blk 6 Try.f5) Q0 ⟨List.toArray (s0 :: s1 :: s2 :: s3 :: s4 :: s5 :: s6 :: s7 :: s8 :: bv :: s10 :: s11 :: s12 :: s13 :: s14 :: s15 :: .slice (some ⟨dg, 0, none⟩) dn.length dc :: s17 :: .int .i64 k :: s19 :: s20 :: s21 :: s22 :: s23 :: s24 :: s25 :: s26 :: s27 :: s28 :: s29 :: s30 :: s31 :: s32 :: s33 :: s34 :: s35 :: s36 :: s37 :: s38 :: s39 :: s40 :: s41 :: s42 :: s43 :: s44 :: s45 :: s46 :: s47 :: s48 :: s49 :: s50 :: s51 :: s52 :: s53 :: s54 :: s55 :: s56 :: s57 :: s58 :: s59 :: s60 :: s61 :: s62 :: s63 :: s64 :: s65 :: s66 :: s67 :: s68 :: s69 :: s70 :: s71 :: s72 :: s73 :: s74 :: s75 :: s76 :: s77 :: s78 :: s79 :: s80 :: s81 :: s82 :: s83 :: s84 :: s85 :: s86 :: s87 :: s88 :: s89 :: s90 :: s91 :: s92 :: s93 :: s94 :: s95 :: s96 :: s97 :: s98 :: s99 :: s100 :: s101 :: s102 :: s103 :: s104 :: s105 :: s106 :: s107 :: s108 :: s109 :: s110 :: s111 :: s112 :: s113 :: s114 :: s115 :: s116 :: s117 :: s118 :: s119 :: s120 :: s121 :: s122 :: s123 :: s124 :: s125 :: s126 :: s127 :: s128 :: s129 :: s130 :: s131 :: s132 :: s133 :: s134 :: s135 :: s136 :: s137 :: s138 :: s139 :: s140 :: s141 :: s142 :: s143 :: s144 :: s145 :: s146 :: s147 :: s148 :: s149 :: s150 :: s151 :: s152 :: s153 :: s154 :: s155 :: s156 :: s157 :: s158 :: s159 :: s160 :: s161 :: s162 :: s163 :: s164 :: s165 :: s166 :: s167 :: s168 :: s169 :: s170 :: s171 :: s172 :: s173 :: s174 :: s175 :: s176 :: s177 :: s178 :: s179 :: s180 :: s181 :: s182 :: s183 :: s184 :: s185 :: s186 :: s187 :: s188 :: s189 :: s190 :: s191 :: s192 :: s193 :: s194 :: s195 :: s196 :: s197 :: s198 :: s199 :: s200 :: s201 :: s202 :: s203 :: s204 :: s205 :: s206 :: s207 :: s208 :: s209 :: s210 :: s211 :: s212 :: s213 :: s214 :: s215 :: s216 :: s217 :: s218 :: s219 :: s220 :: s221 :: s222 :: s223 :: s224 :: s225 :: s226 :: s227 :: s228 :: s229 :: s230 :: s231 :: s232 :: s233 :: s234 :: s235 :: s236 :: s237 :: s238 :: s239 :: s240 :: s241 :: s242 :: s243 :: s244 :: s245 :: s246 :: s247 :: s248 :: s249 :: s250 :: s251 :: s252 :: s253 :: s254 :: s255 :: s256 :: s257 :: s258 :: s259 :: s260 :: s261 :: s262 :: s263 :: s264 :: s265 :: s266 :: s267 :: s268 :: s269 :: s270 :: s271 :: s272 :: s273 :: s274 :: s275 :: s276 :: s277 :: s278 :: s279 :: s280 :: s281 :: s282 :: s283 :: s284 :: s285 :: s286 :: s287 :: []), []⟩ w := by
  have HX := Lib.hid hexit
  have HP := Lib.hid hp
  have HK := Lib.hid hk
  have hkl := (List.getElem?_eq_some_iff.1 hk).1
  clear hexit hp hk
  obtain ⟨i0, hi, hz0, hz1, hz2⟩ := info_parts info27
  conv => arg 2; whnf
  go_wp2_with fail
  go_loopg [9] (I + 1 - B.length) (fun g bv wr => ∃ j : Nat, j ≤ I + 1 - B.length ∧ g = I + 1 - B.length - j ∧ Ph3 w0 wr b D bv (B ++ rep j zpage) (.slice (some ⟨dg, 0, none⟩) dn.length dc) dn)
  case atStart => exact ⟨0, by omega, rfl, by simpa [rep] using HP.out⟩
  case round =>
    obtain ⟨j, hj, hg, own1, bown1, hS1, hB1, hDn1⟩ := hrel
    have Hg := Lib.hid hg
    have S1 := Lib.hid hS1
    have B1 := Lib.hid hB1
    have Dn1 := Lib.hid hDn1
    obtain ⟨M, hM⟩ : ∃ M, M = B.length + j := ⟨_, rfl⟩
    have hlen : (B ++ rep j zpage).length = M := by rw [List.length_append, rep_length, hM]
    have HM := Lib.hid hM
    have Hlen := Lib.hid hlen
    obtain ⟨c1, c2⟩ := hDn1.cells HK.out
    obtain ⟨la, lc, rfl⟩ := hB1.form
    replace B1 : Hid (Bo w0 wr own1 bown1 (.slice la M lc) (B ++ rep j zpage)) := by have h := B1.out; rw [hlen] at h; exact Lib.hid h
    rw [hlen]
    have hM40 : M ≤ 41 := by omega
    clear hg hS1 hB1 hDn1 hM hlen
    by_cases hlt : M ≤ I
    · go_wp2_with fail
      refine (full_lit _ 0 _ rfl).mono ?_
      rintro e w4 ⟨rfl, rB, hc4, hlt4⟩
      obtain ⟨gB, hgB⟩ : ∃ gB, gB = wr.heap.size := ⟨_, rfl⟩
      rw [← hgB] at rB ⊢
      have fB : ¬ own1.blocks gB := S1.out.free (by omega)
      have S4 := Lib.hid (S1.out.other hc4 (fun _ f => f.elim))
      have B4 := Lib.hid (B1.out.chg hc4 (fun _ _ f => f))
      have Dn4 := Lib.hid (Dn1.out.chg hc4 (fun _ _ f => f))
      have fB2 : ¬ bown1.blocks gB := fun e => by have := (B1.out.lt _ e).2.1; omega
      have fB3 : w0.heap.size ≤ gB := by have := S1.out.below.size; omega
      have fB4 : gB ≠ dg := fun e => by have := (Dn1.out.2.2 dg rfl).2.1; omega
      have RB := Lib.hid rB
      have hgB4 : gB < w4.heap.size := row_lt rB
      clear hgB hlt4 hc4 rB
      obtain ⟨ls, hls, hlarr, hlp⟩ := B4.out.last
      rw [Hlen.out] at hls hlarr
      have Hls := Lib.hid hls
      have Hlp := Lib.hid hlp
      have Harr := Lib.hid hlarr
      clear hls hlp hlarr
      go_wp2_with (at_builtin; refine wpList_append_lies _ rfl _ _ _ rfl 0 27 i0 _ 1 24 Try.underlying46 hi hz0 hz1 hz2 rfl (by omega) (.slice la M lc) M ls (by rfl) (Harr.out.1.alloc _) ⟨w4.heap.size, 0, none⟩ 1 1 [.slice (some ⟨gB, 0, none⟩) 4096 4096] (by rfl) (by rfl) (World.news_of_block (cs := #[.slice (some ⟨gB, 0, none⟩) 4096 4096]) (t := 27) (fr := (0, 0)) (heap_alloc_new w4 _)) (by simp [Value.oneCell']) (by omega) (by unfold maxLen; omega) (by omega) (Nat.zero_le _) (w4.heap.size + 1) (by simp) ?_; intro gg cap' w5 hown5 hgrow5 hat5 hlt5)
      have hsz4 : w0.heap.size ≤ w4.heap.size := S4.out.below.size
      have hc5 : Chg (fun x => (Value.slice la M lc).ownBlock = some x) w4 w5 := ((Chg.refl _ w4).alloc _).grown hgrow5 (fun k hk => .inl hk)
      have hla : ∀ x, (Value.slice la M lc).ownBlock = some x → w0.heap.size ≤ x ∧ x < w4.heap.size ∧ ¬ own1.blocks x := fun x e => B4.out.lt x (Own.blocks_of (Harr.out.2 x e))
      have hlg4 : ∀ x, (Value.slice la M lc).ownBlock = some x → x ≠ gB := fun x e e2 => fB2 (by subst e2; exact Own.blocks_of (Harr.out.2 x e))
      have hlg5 : ∀ x, (Value.slice la M lc).ownBlock = some x → x ≠ dg := fun x e e2 => (Dn4.out.2.2 dg rfl).2.2.2 (by subst e2; exact Own.blocks_of (Harr.out.2 x e))
      have hB5 : ∃ bown', Bo w0 w5 own1 bown' (.slice (some ⟨gg, 0, none⟩) (M + 1) cap') (B ++ rep (j + 1) zpage) ∧ ∀ x, bown'.blocks x → bown1.blocks x ∨ x = gB ∨ x = gg := by
        have e2 := Hlen.out
        have := Bo.snoc (w' := w5) (g := gB) (ga := gg) (cap := cap') (capg := 4096) (ls := ls) (p := zpage) B4.out (by rw [e2]; exact Hls.out) Hlp.out Harr.out.2 fB3 fB fB2
          (hat5.imp id (fun e => ⟨by omega, by omega, S4.out.free (by omega)⟩)) hsz4 hc5
          (by rw [zpage_length]; exact ownsRow_chg RB.out hc5 (fun y e e2 => by cases e; exact hlg4 _ e2 rfl))
          (by rw [e2, zpage_length]; exact hown5)
        rw [e2, List.append_assoc, ← rep_snoc] at this
        exact this
      have hB5 := hB5
      obtain ⟨bown', hB5, hnew5⟩ := hB5
      have hS5 := S4.out.other hc5 (fun x e => ⟨(hla x e).2.2, (hla x e).1⟩)
      have hDn5 : Dn w0 w5 own1 bown' (.slice (some ⟨dg, 0, none⟩) dn.length dc) dn := by
        have h := Dn4.out.chg hc5 (fun x e e2 => by cases e; exact hlg5 _ e2 rfl)
        refine ⟨h.1, h.2.1, fun x e => ⟨(h.2.2 x e).1, (h.2.2 x e).2.1, (h.2.2 x e).2.2.1, fun e2 => ?_⟩⟩
        obtain rfl : dg = x := by simpa [Value.ownBlock] using e
        rcases hnew5 _ e2 with e3 | e3 | e3
        · exact (h.2.2 dg rfl).2.2.2 e3
        · exact fB4 e3.symm
        · rcases hat5 with e4 | e4
          · exact hlg5 _ e4 e3.symm
          · have := (Dn4.out.2.2 dg rfl).2.1; omega
      go_roundg (I + 1 - B.length - (j + 1))
      case measure => have := Hg.out; have := HM.out; omega
      case rel => exact ⟨j + 1, by have := HM.out; omega, rfl, own1, bown', hS5, hB5, hDn5⟩
    · go_wp2_with fail
      refine HX.out wr ⟨own1, bown1, S1.out, ?_, Dn1.out⟩
      have e : j = I + 1 - B.length := by have := HM.out; omega
      rw [← e]; exact B1.out

theorem set_self {α : Type} {B : List α} {I : Nat} {p : α} (h : B[I]? = some p) : B.set I p = B := by
  apply List.ext_getElem?
  intro i
  by_cases e : I = i
  · subst e; rw [List.getElem?_set_self (List.getElem?_eq_some_iff.1 h).1, h]
  · rw [List.getElem?_set_ne e]

theorem tornN_lt (x : Int) (n : Nat) (h1 : n ≤ (tornN x).toNat) : (n : Int) < x ∧ n < 4096 ↔ n < (tornN x).toNat := by unfold tornN at *; omega

theorem Bo.page {w0 w : World} {own bown : Own} {bv : Value} {L : List (List UInt8)} (h : Bo w0 w own bown bv L) {i : Nat} {p : List UInt8} (hi : L[i]? = some p) :
    ∃ bg bc ls g c, bv = .slice (some ⟨bg, 0, none⟩) L.length bc ∧ w.cell? ⟨bg, i, none⟩ = some (.slice (some ⟨g, 0, none⟩) p.length c) ∧ w.ownsRow 0 5 1 (.slice (some ⟨g, 0, none⟩) p.length c) p.length (bVs p) ∧ bown g = some (.page i) ∧
      ls.length = L.length ∧ Arr w bown .larr 27 1 bv L.length ls ∧ (∀ (i : Nat) (p : List UInt8), L[i]? = some p → ∃ v, ls[i]? = some v ∧ Buf w bown (.page i) v p) ∧ ls[i]? = some (.slice (some ⟨g, 0, none⟩) p.length c) := by
  obtain ⟨ls, hls, harr, hlp⟩ := h.last
  have hlt := (List.getElem?_eq_some_iff.1 hi).1
  obtain ⟨a, cap, e, _, _, hg⟩ := ownsRow_slice harr.1
  obtain ⟨bg, rfl⟩ := hg (by omega)
  obtain ⟨v, hv, g, c, rfl, ho, hr⟩ := hlp i p hi
  refine ⟨bg, cap, ls, g, c, e, ?_, hr, ho, hls, harr, hlp, hv⟩
  have h1 := harr.1
  rw [e] at h1
  exact (h1.cellAt i (by omega)).trans hv

theorem fill_set (p : List UInt8) (j : Nat) (y : UInt8) (hj : j < p.length) : (rep j y ++ p.drop j).set j y = rep (j + 1) y ++ p.drop (j + 1) := by
  have e : p.drop j = p[j] :: p.drop (j + 1) := List.drop_eq_getElem_cons hj
  rw [e, List.set_append_right _ _ (by rw [rep_length]; omega), rep_length, Nat.sub_self, List.set_cons_zero, rep_snoc, List.append_assoc]; rfl

theorem fill_step {w0 wr : World} {own1 bown1 : Own} {b I j pgb pc dg dc : Nat} {D : DS} {bv : Value} {B : List (List UInt8)} {p : List UInt8} {y : UInt8} {dn : List (Nat × UInt8)} {ls : List Value} (hS : St w0 wr own1 b D) (hB : Bo w0 wr own1 bown1 bv (B.set I (rep j y ++ p.drop j)))
    (hD : Dn w0 wr own1 bown1 (.slice (some ⟨dg, 0, none⟩) dn.length dc) dn) (hj : j < 4096) (hpl : p.length = 4096) (hI : I < B.length) (hrow : wr.ownsRow 0 5 1 (.slice (some ⟨pgb, 0, none⟩) 4096 pc) 4096 (bVs (rep j y ++ p.drop j)))
    (ho : bown1 pgb = some (.page I)) (hls : ls.length = (B.set I (rep j y ++ p.drop j)).length) (harr : Arr wr bown1 .larr 27 1 bv (B.set I (rep j y ++ p.drop j)).length ls)
    (hlp : ∀ (i : Nat) (q : List UInt8), (B.set I (rep j y ++ p.drop j))[i]? = some q → ∃ v, ls[i]? = some v ∧ Buf wr bown1 (.page i) v q) (hlsI : ls[I]? = some (.slice (some ⟨pgb, 0, none⟩) 4096 pc)) :
    Ph3 w0 (wr.setCell ⟨pgb, j, none⟩ (.int .u8 y.toNat)).drew b D bv (B.set I (rep (j + 1) y ++ p.drop (j + 1))) (.slice (some ⟨dg, 0, none⟩) dn.length dc) dn := by
  have hc : Chg (fun x => x = pgb) wr (wr.setCell ⟨pgb, j, none⟩ (.int .u8 y.toNat)).drew := ((Chg.refl (fun x => x = pgb) wr).setCell (p := ⟨pgb, j, none⟩) (.inl rfl) _).drew
  have hb := hB.lt pgb (Own.blocks_of ho)
  have hq : (B.set I (rep j y ++ p.drop j))[I]? = some (rep j y ++ p.drop j) := by rw [List.getElem?_set_self hI]
  have hql : (rep j y ++ p.drop j).length = 4096 := by rw [List.length_append, rep_length, List.length_drop, hpl]; omega
  have hset := fill_set p j y (by omega)
  have hr2 : (wr.setCell ⟨pgb, j, none⟩ (.int .u8 y.toNat)).drew.ownsRow 0 5 1 (.slice (some ⟨pgb, 0, none⟩) 4096 pc) 4096 (bVs (rep (j + 1) y ++ p.drop (j + 1))) := by
    have := ownsRow_setCell hrow j (bV y) (by rw [bVs_length]; omega)
    rw [← bVs_set, hset] at this
    exact this
  refine ⟨own1, bown1, hS.other hc (fun x e => by subst e; exact ⟨hb.2.2, hb.1⟩), ?_, hD.chg hc (fun x e e2 => (hD.2.2 x e).2.2.2 (by subst e2; exact Own.blocks_of ho))⟩
  have := Bo.setPage (w' := (wr.setCell ⟨pgb, j, none⟩ (.int .u8 y.toNat)).drew) (p := rep j y ++ p.drop j) (p' := rep (j + 1) y ++ p.drop (j + 1)) hB hls harr hlp hq (by rw [hql, List.length_append, rep_length, List.length_drop, hpl]; omega) (by rw [hql]; exact hlsI) ho hc (by rw [hql]; exact hr2)
  rw [List.set_set] at this
  exact this

set_option maxRecDepth 100000 in
set_option maxHeartbeats 4000000 in
theorem dc_fill {Q0 : Exit → Act → World → Prop} {s0 s1 s2 s3 s4 s5 s6 s7 s8 s10 s11 s12 s13 s14 s15 s17 s20 s22 s23 s24 s25 s26 s27 s28 s29 s30 s31 s32 s33 s34 s35 s36 s37 s38 s39 s40 s41 s42 s43 s44 s45 s46 s47 s48 s49 s50 s51 s52 s53 s54 s55 s56 s57 s58 s59 s60 s61 s62 s63 s64 s65 s66 s67 s68 s69 s70 s71 s72 s73 s74 s75 s76 s77 s78 s79 s80 s81 s82 s83 s84 s85 s86 s87 s88 s89 s90 s91 s92 s93 s94 s95 s96 s97 s98 s99 s100 s101 s102 s103 s104 s105 s106 s107 s108 s109 s110 s111 s112 s113 s114 s115 s116 s117 s118 s119 s120 s121 s122 s123 s124 s125 s126 s127 s128 s129 s130 s131 s132 s133 s134 s135 s136 s137 s138 s139 s140 s141 s142 s143 s144 s145 s146 s147 s148 s149 s150 s151 s152 s153 s154 s155 s156 s157 s158 s159 s160 s161 s162 s163 s164 s165 s166 s167 s168 s169 s170 s171 s172 s173 s174 s175 s176 s177 s178 s179 s180 s181 s182 s183 s184 s185 s186 s187 s188 s189 s190 s191 s192 s193 s194 s195 s196 s197 s198 s199 s200 s201 s202 s203 s204 s205 s206 s207 s208 s209 s210 s211 s212 s213 s214 s215 s216 s217 s218 s219 s220 s221 s222 s223 s224 s225 s226 s227 s228 s229 s230 s231 s232 s233 s234 s235 s236 s237 s238 s239 s240 s241 s242 s243 s244 s245 s246 s247 s248 s249 s250 s251 s252 s253 s254 s255 s256 s257 s258 s259 s260 s261 s262 s263 s264 s265 s266 s267 s268 s269 s270 s271 s272 s273 s274 s275 s276 s277 s278 s279 s280 s281 s282 s283 s284 s285 s286 s287 : Value} (w0 w : World) (b : Nat) (D : DS) (bg bc : Nat) (B : List (List UInt8)) (dg dc : Nat) (dn : List (Nat × UInt8)) (hp : Ph3 w0 w b D (.slice (some ⟨bg, 0, none⟩) B.length bc) B (.slice (some ⟨dg, 0, none⟩) dn.length dc) dn) (k : Nat) (I : Nat) (y : UInt8) (hk : dn[k]? = some (I, y)) (hkk : k ≤ 20) (hdl : dn.length ≤ 20) (hI : I ≤ 40) (hB : B.length ≤ 50) (p : List UInt8) (hp0 : B[I]? = some p) (hpl : p.length = 4096) (at' : Int)
    (hexit : ∀ ⦃u21 u181 u182 u183 u184 u185 u186 u187 u188 u189 u190 u191 u192 u193 u194 u195 u196 u197 u198 u199 u200 u201 u202 u203 u204 : Value⦄ (w' : World), (Ph3 w0 w' b D (.slice (some ⟨bg, 0, none⟩) B.length bc) (B.set I (rep (tornN at').toNat y ++ p.drop (tornN at').toNat)) (.slice (some ⟨dg, 0, none⟩) dn.length dc) dn) → Q0 .normal ⟨List.toArray (s0 :: s1 :: s2 :: s3 :: s4 :: s5 :: s6 :: s7 :: s8 :: .slice (some ⟨bg, 0, none⟩) B.length bc :: s10 :: s11 :: s12 :: s13 :: s14 :: s15 :: .slice (some ⟨dg, 0, none⟩) dn.length dc :: s17 :: .int .i64 k :: .int .i64 at' :: s20 :: u21 :: s22 :: s23 :: s24 :: s25 :: s26 :: s27 :: s28 :: s29 :: s30 :: s31 :: s32 :: s33 :: s34 :: s35 :: s36 :: s37 :: s38 :: s39 :: s40 :: s41 :: s42 :: s43 :: s44 :: s45 :: s46 :: s47 :: s48 :: s49 :: s50 :: s51 :: s52 :: s53 :: s54 :: s55 :: s56 :: s57 :: s58 :: s59 :: s60 :: s61 :: s62 :: s63 :: s64 :: s65 :: s66 :: s67 :: s68 :: s69 :: s70 :: s71 :: s72 :: s73 :: s74 :: s75 :: s76 :: s77 :: s78 :: s79 :: s80 :: s81 :: s82 :: s83 :: s84 :: s85 :: s86 :: s87 :: s88 :: s89 :: s90 :: s91 :: s92 :: s93 :: s94 :: s95 :: s96 :: s97 :: s98 :: s99 :: s100 :: s101 :: s102 :: s103 :: s104 :: s105 :: s106 :: s107 :: s108 :: s109 :: s110 :: s111 :: s112 :: s113 :: s114 :: s115 :: s116 :: s117 :: s118 :: s119 :: s120 :: s121 :: s122 :: s123 :: s124 :: s125 :: s126 :: s127 :: s128 :: s129 :: s130 :: s131 :: s132 :: s133 :: s134 :: s135 :: s136 :: s137 :: s138 :: s139 :: s140 :: s141 :: s142 :: s143 :: s144 :: s145 :: s146 :: s147 :: s148 :: s149 :: s150 :: s151 :: s152 :: s153 :: s154 :: s155 :: s156 :: s157 :: s158 :: s159 :: s160 :: s161 :: s162 :: s163 :: s164 :: s165 :: s166 :: s167 :: s168 :: s169 :: s170 :: s171 :: s172 :: s173 :: s174 :: s175 :: s176 :: s177 :: s178 :: s179 :: s180 :: u181 :: u182 :: u183 :: u184 :: u185 :: u186 :: u187 :: u188 :: u189 :: u190 :: u191 :: u192 :: u193 :: u194 :: u195 :: u196 :: u197 :: u198 :: u199 :: u200 :: u201 :: u202 :: u203 :: u204 :: s205 :: s206 :: s207 :: s208 :: s209 :: s210 :: s211 :: s212 :: s213 :: s214 :: s215 :: s216 :: s217 :: s218 :: s219 :: s220 :: s221 :: s222 :: s223 :: s224 :: s225 :: s226 :: s227 :: s228 :: s229 :: s230 :: s231 :: s232 :: s233 :: s234 :: s235 :: s236 :: s237 :: s238 :: s239 :: s240 :: s241 :: s242 :: s243 :: s244 :: s245 :: s246 :: s247 :: s248 :: s249 :: s250 :: s251 :: s252 :: s253 :: s254 :: s255 :: s256 :: s257 :: s258 :: s259 :: s260 :: s261 :: s262 :: s263 :: s264 :: s265 :: s266 :: s267 :: s268 :: s269 :: s270 :: s271 :: s272 :: s273 :: s274 :: s275 :: s276 :: s277 :: s278 :: s279 :: s280 :: s281 :: s282 :: s283 :: s284 :: s285 :: s286 :: s287 :: []), []⟩ w') :
    Code.wp Try.prog (blk 8 Try.f5) Q0 ⟨List.toArray (s0 :: s1 :: s2 :: s3 :: s4 :: s5 :: s6 :: s7 :: s8 :: .slice (some ⟨bg, 0, none⟩) B.length bc :: s10 :: s11 :: s12 :: s13 :: s14 :: s15 :: .slice (some ⟨dg, 0, none⟩) dn.length dc :: s17 :: .int .i64 k :: .int .i64 at' :: s20 :: .int .i64 0 :: s22 :: s23 :: s24 :: s25 :: s26 :: s27 :: s28 :: s29 :: s30 :: s31 :: s32 :: s33 :: s34 :: s35 :: s36 :: s37 :: s38 :: s39 :: s40 :: s41 :: s42 :: s43 :: s44 :: s45 :: s46 :: s47 :: s48 :: s49 :: s50 :: s51 :: s52 :: s53 :: s54 :: s55 :: s56 :: s57 :: s58 :: s59 :: s60 :: s61 :: s62 :: s63 :: s64 :: s65 :: s66 :: s67 :: s68 :: s69 :: s70 :: s71 :: s72 :: s73 :: s74 :: s75 :: s76 :: s77 :: s78 :: s79 :: s80 :: s81 :: s82 :: s83 :: s84 :: s85 :: s86 :: s87 :: s88 :: s89 :: s90 :: s91 :: s92 :: s93 :: s94 :: s95 :: s96 :: s97 :: s98 :: s99 :: s100 :: s101 :: s102 :: s103 :: s104 :: s105 :: s106 :: s107 :: s108 :: s109 :: s110 :: s111 :: s112 :: s113 :: s114 :: s115 :: s116 :: s117 :: s118 :: s119 :: s120 :: s121 :: s122 :: s123 :: s124 :: s125 :: s126 :: s127 :: s128 :: s129 :: s130 :: s131 :: s132 :: s133 :: s134 :: s135 :: s136 :: s137 :: s138 :: s139 :: s140 :: s141 :: s142 :: s143 :: s144 :: s145 :: s146 :: s147 :: s148 :: s149 :: s150 :: s151 :: s152 :: s153 :: s154 :: s155 :: s156 :: s157 :: s158 :: s159 :: s160 :: s161 :: s162 :: s163 :: s164 :: s165 :: s166 :: s167 :: s168 :: s169 :: s170 :: s171 :: s172 :: s173 :: s174 :: s175 :: s176 :: s177 :: s178 :: s179 :: s180 :: s181 :: s182 :: s183 :: s184 :: s185 :: s186 :: s187 :: s188 :: s189 :: s190 :: s191 :: s192 :: s193 :: s194 :: s195 :: s196 :: s197 :: s198 :: s199 :: s200 :: s201 :: s202 :: s203 :: s204 :: s205 :: s206 :: s207 :: s208 :: s209 :: s210 :: s211 :: s212 :: s213 :: s214 :: s215 :: s216 :: s217 :: s218 :: s219 :: s220 :: s221 :: s222 :: s223 :: s224 :: s225 :: s226 :: s227 :: s228 :: s229 :: s230 :: s231 :: s232 :: s233 :: s234 :: s235 :: s236 :: s237 :: s238 :: s239 :: s240 :: s241 :: s242 :: s243 :: s244 :: s245 :: s246 :: s247 :: s248 :: s249 :: s250 :: s251 :: s252 :: s253 :: s254 :: s255 :: s256 :: s257 :: s258 :: s259 :: s260 :: s261 :: s262 :: s263 :: s264 :: s265 :: s266 :: s267 :: s268 :: s269 :: s270 :: s271 :: s272 :: s273 :: s274 :: s275 :: s276 :: s277 :: s278 :: s279 :: s280 :: s281 :: s282 :: s283 :: s284 :: s285 :: s286 :: s287 :: []), []⟩ w := by
  have HX := Lib.hid hexit
  have HP := Lib.hid hp
  have HK := Lib.hid hk
  have HP0 := Lib.hid hp0
  have Hpl := Lib.hid hpl
  have hkl := (List.getElem?_eq_some_iff.1 hk).1
  have hIl := (List.getElem?_eq_some_iff.1 hp0).1
  have ht4 : (tornN at').toNat ≤ 4096 := by unfold tornN; omega
  clear hexit hp hk hp0 hpl
  conv => arg 2; whnf
  go_wp2_with fail
  go_loopg [21] ((tornN at').toNat) (fun g jv wr => ∃ j : Nat, j ≤ (tornN at').toNat ∧ g = (tornN at').toNat - j ∧ jv = .int .i64 j ∧ Ph3 w0 wr b D (.slice (some ⟨bg, 0, none⟩) B.length bc) (B.set I (rep j y ++ p.drop j)) (.slice (some ⟨dg, 0, none⟩) dn.length dc) dn)
  case atStart => exact ⟨0, by omega, rfl, rfl, by
    have e : B.set I (rep 0 y ++ p.drop 0) = B := set_self HP0.out
    rw [e]; exact HP.out⟩
  case round =>
    obtain ⟨j, hj, hg, rfl, own1, bown1, hS1, hB1, hDn1⟩ := hrel
    have Hg := Lib.hid hg
    have S1 := Lib.hid hS1
    have B1 := Lib.hid hB1
    have Dn1 := Lib.hid hDn1
    have hiff := tornN_lt at' j hj
    have Hiff := Lib.hid hiff
    clear hg hS1 hB1 hiff
    by_cases hlt : j < (tornN at').toNat
    · obtain ⟨h1, h2⟩ := Hiff.out.2 hlt
      obtain ⟨c1, c2⟩ := hDn1.cells HK.out
      have hq : (B.set I (rep j y ++ p.drop j))[I]? = some (rep j y ++ p.drop j) := by rw [List.getElem?_set_self hIl]
      have hql : (rep j y ++ p.drop j).length = 4096 := by rw [List.length_append, rep_length, List.length_drop, Hpl.out]; omega
      obtain ⟨bg', bc', ls, pgb, pc, e, cb, hrow, ho, hls, harr, hlp, hlsI⟩ := B1.out.page hq
      rw [List.length_set] at e
      cases e
      rw [hql] at cb hrow
      have hcell := hrow.cellAt j (by omega)
      obtain ⟨u0, hcell2⟩ : ∃ u, wr.drew.cell? ⟨pgb, j, none⟩ = some u := ⟨_, by rw [show wr.drew.cell? ⟨pgb, j, none⟩ = wr.cell? ⟨pgb, j, none⟩ from rfl, hcell]; exact List.getElem?_eq_getElem (by rw [bVs_length]; omega)⟩
      have hfz : wr.drew.frozen? ⟨pgb, j, none⟩ = false := hrow.frozenAt j
      have cxd : wr.drew.cell? ⟨dg, k * 2, none⟩ = some (.int .i64 I) := c1
      have cyd : wr.drew.cell? ⟨dg, k * 2 + 1, none⟩ = some (.int .u8 y.toNat) := c2
      have cbd : wr.drew.cell? ⟨bg, I, none⟩ = some (.slice (some ⟨pgb, 0, none⟩) 4096 pc) := cb
      have Hrow := Lib.hid hrow
      have Hls := Lib.hid hls
      have Harr := Lib.hid harr
      have Hlp := Lib.hid hlp
      have HlsI := Lib.hid hlsI
      have Ho := Lib.hid ho
      have Hq := Lib.hid hq
      have Hql := Lib.hid hql
      clear hDn1 hrow hls harr hlp hlsI ho hq hql hcell
      go_upto_region 43 with fail
      refine wp_region_noPanic ?_
      go_region_law
        (fail)
      all_goals refine NoPanic.normal ?_
      all_goals
        go_wp2_with fail
        go_roundg ((tornN at').toNat - (j + 1))
        case measure => have := Hg.out; omega
        case rel => exact ⟨j + 1, by omega, rfl, by go_num, fill_step S1.out B1.out Dn1.out h2 Hpl.out hIl Hrow.out Ho.out Hls.out Harr.out Hlp.out (by rw [← Hql.out]; exact HlsI.out)⟩
    · have hj2 : j = (tornN at').toNat := by omega
      by_cases h1 : (j : Int) < at'
      · have h2 : ¬ j < 4096 := fun h => hlt (Hiff.out.1 ⟨h1, h⟩)
        have Hj2 := Lib.hid hj2
        clear hj2
        go_wp2_with fail
        exact HX.out wr ⟨own1, bown1, S1.out, by rw [← Hj2.out]; exact B1.out, Dn1.out⟩
      · have Hj2 := Lib.hid hj2
        clear hj2
        go_wp2_with fail
        exact HX.out wr ⟨own1, bown1, S1.out, by rw [← Hj2.out]; exact B1.out, Dn1.out⟩

end Go.Proofs.Ytckioocahmbhkaa
