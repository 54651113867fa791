/- The law DiskCrashes: its second loop: writes that pend. -/
import Derived.Test.YtckioocahmbhkaaC5
import Derived.WalkKit
import Derived.Outline
import Derived.Deep.DeepCutAuto
import Derived.Deep.LoopGhost
import Derived.Deep.RegionHeld3
namespace Go.Proofs.Ytckioocahmbhkaa
open Go Go.RowKit Go.Maps Go.MuLone

theorem info31 : (Try.prog.info? 31).map (fun i => (i.zero, i.size, i.bytes)) = some (some (.agg #[.int .i64 0, .int .u8 0]), 2, 16) := by kernel_rfl

def dcells (dn : List (Nat × UInt8)) : List Value := (dn.map fun q => [.int .i64 q.1, bV q.2]).flatten
theorem dcells_length (dn : List (Nat × UInt8)) : (dcells dn).length = dn.length * 2 := by
  induction dn with
  | nil => rfl
  | cons f fs ih =>
    show ([_, _] ++ dcells fs).length = _
    rw [List.length_append, ih]; simp; omega
theorem dcells_get (fs : List (Nat × UInt8)) (i : Nat) (f : Nat × UInt8) (h : fs[i]? = some f) : (dcells fs)[i * 2]? = some (.int .i64 f.1) ∧ (dcells fs)[i * 2 + 1]? = some (bV f.2) := by
  induction fs generalizing i with
  | nil => simp at h
  | cons g fs ih =>
    have e : dcells (g :: fs) = .int .i64 g.1 :: bV g.2 :: dcells fs := rfl
    cases i with
    | zero => simp at h; subst h; simp [e]
    | succ i =>
      have := ih i (by simpa using h)
      rw [e, show (i + 1) * 2 = i * 2 + 2 by omega, show i * 2 + 2 + 1 = (i * 2 + 1) + 2 by omega]
      simpa using this
theorem dcells_snoc (fs : List (Nat × UInt8)) (f : Nat × UInt8) : dcells (fs ++ [f]) = dcells fs ++ [.int .i64 f.1, bV f.2] := by simp [dcells]

/-- A row of the law's own, beside the disk and the book. -/
def Dn (w0 w : World) (own bown : Own) (dv : Value) (dn : List (Nat × UInt8)) : Prop :=
  (∃ a cap, dv = .slice a dn.length cap) ∧ w.ownsRow 0 31 2 dv dn.length (dcells dn) ∧ ∀ g, dv.ownBlock = some g → w0.heap.size ≤ g ∧ g < w.heap.size ∧ ¬ own.blocks g ∧ ¬ bown.blocks g
theorem Dn.nil (w0 w : World) (own bown : Own) : Dn w0 w own bown (.slice none 0 0) [] := ⟨⟨_, _, rfl⟩, World.ownsRow_nil _ _ _ _, fun g e => by simp [Value.ownBlock] at e⟩
theorem Dn.step {w0 w w' : World} {own own' bown : Own} {dv : Value} {dn : List (Nat × UInt8)} (h : Dn w0 w own bown dv dn) (hst : Step w own w' own') : Dn w0 w' own' bown dv dn :=
  ⟨h.1, ownsRow_chg h.2.1 hst.chg (fun g e => (h.2.2 g e).2.2.1), fun g e => let k := hst.keep (h.2.2 g e).2.2.1 (h.2.2 g e).2.1; ⟨(h.2.2 g e).1, k.2.1, k.1, (h.2.2 g e).2.2.2⟩⟩
theorem Dn.chg {w0 w w' : World} {own bown : Own} {dv : Value} {dn : List (Nat × UInt8)} {S : Nat → Prop} (h : Dn w0 w own bown dv dn) (hc : Chg S w w') (hs : ∀ g, dv.ownBlock = some g → ¬ S g) : Dn w0 w' own bown dv dn :=
  ⟨h.1, ownsRow_chg h.2.1 hc hs, fun g e => ⟨(h.2.2 g e).1, Nat.lt_of_lt_of_le (h.2.2 g e).2.1 hc.size, (h.2.2 g e).2.2⟩⟩

/-- The state between the second loop's rounds. -/
def Ph2 (w0 w : World) (b k : Nat) (bv : Value) (L : List (List UInt8)) (pg : Nat) (dv : Value) (dn : List (Nat × UInt8)) : Prop :=
  ∃ own D bown, St w0 w own b D ∧ CInv D L dn pg k ∧ Bo w0 w own bown bv L ∧ Dn w0 w own bown dv dn

set_option maxRecDepth 100000 in
set_option maxHeartbeats 8000000 in
theorem dc_loop2 {Q0 : Exit → Act → World → Prop} {s0 s2 s3 s4 s5 s6 s7 s10 s11 s12 s13 s14 s18 s19 s20 s21 s22 s23 s24 s25 s26 s27 s28 s29 s30 s31 s32 s33 s34 s35 s36 s37 s38 s39 s40 s41 s42 s43 s44 s45 s46 s47 s48 s49 s50 s51 s52 s53 s54 s55 s56 s57 s58 s59 s60 s61 s62 s63 s64 s65 s66 s67 s68 s69 s70 s71 s72 s73 s74 s75 s76 s77 s78 s79 s80 s81 s82 s83 s84 s85 s86 s87 s88 s89 s90 s91 s92 s93 s94 s95 s96 s97 s98 s99 s100 s101 s102 s103 s104 s105 s106 s107 s108 s109 s110 s111 s112 s113 s114 s115 s116 s117 s118 s119 s120 s121 s122 s123 s124 s125 s126 s127 s128 s129 s130 s131 s132 s133 s134 s135 s136 s137 s138 s139 s140 s141 s142 s143 s144 s145 s146 s147 s148 s149 s150 s151 s152 s153 s154 s155 s156 s157 s158 s159 s160 s161 s162 s163 s164 s165 s166 s167 s168 s169 s170 s171 s172 s173 s174 s175 s176 s177 s178 s179 s180 s181 s182 s183 s184 s185 s186 s187 s188 s189 s190 s191 s192 s193 s194 s195 s196 s197 s198 s199 s200 s201 s202 s203 s204 s205 s206 s207 s208 s209 s210 s211 s212 s213 s214 s215 s216 s217 s218 s219 s220 s221 s222 s223 s224 s225 s226 s227 s228 s229 s230 s231 s232 s233 s234 s235 s236 s237 s238 s239 s240 s241 s242 s243 s244 s245 s246 s247 s248 s249 s250 s251 s252 s253 s254 s255 s256 s257 s258 s259 s260 s261 s262 s263 s264 s265 s266 s267 s268 s269 s270 s271 s272 s273 s274 s275 s276 s277 s278 s279 s280 s281 s282 s283 s284 s285 s286 s287 : Value} (w0 w : World) (b : Nat) (la : Option Addr) (lc : Nat) (ps : List (Int × UInt8)) (hl : PutsA w0 (.slice la ps.length lc) ps) (bv : Value) (L : List (List UInt8)) (hp : Ph2 w0 w b 0 bv L L.length (.slice none 0 0) [])
    (hexit : ∀ ⦃u6 u13 u15 u16 u17 u76 u77 u78 u79 u80 u81 u82 u83 u84 u85 u86 u87 u88 u89 u90 u91 u92 u93 u94 u95 u96 u97 u98 u99 u100 u101 u102 u103 u104 u105 u106 u107 u108 u109 u110 u111 u112 u113 u114 u115 u116 u117 u118 u119 u120 u121 u122 u123 u124 u125 u126 u127 u128 u129 u130 u131 u132 u133 u134 : Value⦄ (w' : World), (∃ dn pg k, k ≤ 20 ∧ Ph2 w0 w' b k bv L pg u16 dn) → Q0 .normal ⟨List.toArray (s0 :: .slice la ps.length lc :: s2 :: s3 :: s4 :: s5 :: u6 :: s7 :: .pointer (some ⟨b, 0, none⟩) :: bv :: s10 :: s11 :: s12 :: u13 :: s14 :: u15 :: u16 :: u17 :: s18 :: s19 :: s20 :: s21 :: s22 :: s23 :: s24 :: s25 :: s26 :: s27 :: s28 :: s29 :: s30 :: s31 :: s32 :: s33 :: s34 :: s35 :: s36 :: s37 :: s38 :: s39 :: s40 :: s41 :: s42 :: s43 :: s44 :: s45 :: s46 :: s47 :: s48 :: s49 :: s50 :: s51 :: s52 :: s53 :: s54 :: s55 :: s56 :: s57 :: s58 :: s59 :: s60 :: s61 :: s62 :: s63 :: s64 :: s65 :: s66 :: s67 :: s68 :: s69 :: s70 :: s71 :: s72 :: s73 :: s74 :: s75 :: u76 :: u77 :: u78 :: u79 :: u80 :: u81 :: u82 :: u83 :: u84 :: u85 :: u86 :: u87 :: u88 :: u89 :: u90 :: u91 :: u92 :: u93 :: u94 :: u95 :: u96 :: u97 :: u98 :: u99 :: u100 :: u101 :: u102 :: u103 :: u104 :: u105 :: u106 :: u107 :: u108 :: u109 :: u110 :: u111 :: u112 :: u113 :: u114 :: u115 :: u116 :: u117 :: u118 :: u119 :: u120 :: u121 :: u122 :: u123 :: u124 :: u125 :: u126 :: u127 :: u128 :: u129 :: u130 :: u131 :: u132 :: u133 :: u134 :: s135 :: s136 :: s137 :: s138 :: s139 :: s140 :: s141 :: s142 :: s143 :: s144 :: s145 :: s146 :: s147 :: s148 :: s149 :: s150 :: s151 :: s152 :: s153 :: s154 :: s155 :: s156 :: s157 :: s158 :: s159 :: s160 :: s161 :: s162 :: s163 :: s164 :: s165 :: s166 :: s167 :: s168 :: s169 :: s170 :: s171 :: s172 :: s173 :: s174 :: s175 :: s176 :: s177 :: s178 :: s179 :: s180 :: s181 :: s182 :: s183 :: s184 :: s185 :: s186 :: s187 :: s188 :: s189 :: s190 :: s191 :: s192 :: s193 :: s194 :: s195 :: s196 :: s197 :: s198 :: s199 :: s200 :: s201 :: s202 :: s203 :: s204 :: s205 :: s206 :: s207 :: s208 :: s209 :: s210 :: s211 :: s212 :: s213 :: s214 :: s215 :: s216 :: s217 :: s218 :: s219 :: s220 :: s221 :: s222 :: s223 :: s224 :: s225 :: s226 :: s227 :: s228 :: s229 :: s230 :: s231 :: s232 :: s233 :: s234 :: s235 :: s236 :: s237 :: s238 :: s239 :: s240 :: s241 :: s242 :: s243 :: s244 :: s245 :: s246 :: s247 :: s248 :: s249 :: s250 :: s251 :: s252 :: s253 :: s254 :: s255 :: s256 :: s257 :: s258 :: s259 :: s260 :: s261 :: s262 :: s263 :: s264 :: s265 :: s266 :: s267 :: s268 :: s269 :: s270 :: s271 :: s272 :: s273 :: s274 :: s275 :: s276 :: s277 :: s278 :: s279 :: s280 :: s281 :: s282 :: s283 :: s284 :: s285 :: s286 :: s287 :: []), []⟩ w') :
    Code.wp Try.prog (blk 2 Try.f5) Q0 ⟨List.toArray (s0 :: .slice la ps.length lc :: s2 :: s3 :: s4 :: s5 :: s6 :: s7 :: .pointer (some ⟨b, 0, none⟩) :: bv :: s10 :: s11 :: s12 :: s13 :: s14 :: .int .i64 L.length :: .slice none 0 0 :: .int .i64 0 :: s18 :: s19 :: s20 :: s21 :: s22 :: s23 :: s24 :: s25 :: s26 :: s27 :: s28 :: s29 :: s30 :: s31 :: s32 :: s33 :: s34 :: s35 :: s36 :: s37 :: s38 :: s39 :: s40 :: s41 :: s42 :: s43 :: s44 :: s45 :: s46 :: s47 :: s48 :: s49 :: s50 :: s51 :: s52 :: s53 :: s54 :: s55 :: s56 :: s57 :: s58 :: s59 :: s60 :: s61 :: s62 :: s63 :: s64 :: s65 :: s66 :: s67 :: s68 :: s69 :: s70 :: s71 :: s72 :: s73 :: s74 :: s75 :: s76 :: s77 :: s78 :: s79 :: s80 :: s81 :: s82 :: s83 :: s84 :: s85 :: s86 :: s87 :: s88 :: s89 :: s90 :: s91 :: s92 :: s93 :: s94 :: s95 :: s96 :: s97 :: s98 :: s99 :: s100 :: s101 :: s102 :: s103 :: s104 :: s105 :: s106 :: s107 :: s108 :: s109 :: s110 :: s111 :: s112 :: s113 :: s114 :: s115 :: s116 :: s117 :: s118 :: s119 :: s120 :: s121 :: s122 :: s123 :: s124 :: s125 :: s126 :: s127 :: s128 :: s129 :: s130 :: s131 :: s132 :: s133 :: s134 :: s135 :: s136 :: s137 :: s138 :: s139 :: s140 :: s141 :: s142 :: s143 :: s144 :: s145 :: s146 :: s147 :: s148 :: s149 :: s150 :: s151 :: s152 :: s153 :: s154 :: s155 :: s156 :: s157 :: s158 :: s159 :: s160 :: s161 :: s162 :: s163 :: s164 :: s165 :: s166 :: s167 :: s168 :: s169 :: s170 :: s171 :: s172 :: s173 :: s174 :: s175 :: s176 :: s177 :: s178 :: s179 :: s180 :: s181 :: s182 :: s183 :: s184 :: s185 :: s186 :: s187 :: s188 :: s189 :: s190 :: s191 :: s192 :: s193 :: s194 :: s195 :: s196 :: s197 :: s198 :: s199 :: s200 :: s201 :: s202 :: s203 :: s204 :: s205 :: s206 :: s207 :: s208 :: s209 :: s210 :: s211 :: s212 :: s213 :: s214 :: s215 :: s216 :: s217 :: s218 :: s219 :: s220 :: s221 :: s222 :: s223 :: s224 :: s225 :: s226 :: s227 :: s228 :: s229 :: s230 :: s231 :: s232 :: s233 :: s234 :: s235 :: s236 :: s237 :: s238 :: s239 :: s240 :: s241 :: s242 :: s243 :: s244 :: s245 :: s246 :: s247 :: s248 :: s249 :: s250 :: s251 :: s252 :: s253 :: s254 :: s255 :: s256 :: s257 :: s258 :: s259 :: s260 :: s261 :: s262 :: s263 :: s264 :: s265 :: s266 :: s267 :: s268 :: s269 :: s270 :: s271 :: s272 :: s273 :: s274 :: s275 :: s276 :: s277 :: s278 :: s279 :: s280 :: s281 :: s282 :: s283 :: s284 :: s285 :: s286 :: s287 :: []), []⟩ w := by
  have HX := Lib.hid hexit
  have HP := Lib.hid hp
  obtain ⟨la', lc', he, hll, hcells⟩ := hl
  cases he
  have HC := Lib.hid hcells
  clear hexit hp hcells
  obtain ⟨i0, hi, hz0, hz1, hz2⟩ := info_parts info31
  conv => arg 2; whnf
  go_wp2_with fail
  go_loopg [15, 16, 17] 20 (fun g pv dv iv wr => ∃ (k pg : Nat) (dn : List (Nat × UInt8)), k ≤ 20 ∧ k ≤ ps.length ∧ g = 20 - k ∧ iv = .int .i64 k ∧ pv = .int .i64 pg ∧ Ph2 w0 wr b k bv L pg dv dn)
  case atStart => exact ⟨0, L.length, [], by omega, by omega, rfl, rfl, rfl, HP.out⟩
  case round =>
    obtain ⟨k, pg, dn, hk1, hk2, hg, rfl, rfl, own1, D1, bown1, hS1, hC1, hB1, hDn1⟩ := hrel
    have Hg := Lib.hid hg
    have S1 := Lib.hid hS1
    have C1 := Lib.hid hC1
    have B1 := Lib.hid hB1
    have Dn1 := Lib.hid hDn1
    have hfew := hC1.few
    obtain ⟨⟨da, dc, rfl⟩, _⟩ := hDn1
    clear hg hS1 hC1 hB1
    by_cases hlt : k < ps.length
    · by_cases h20 : k < 20
      · obtain ⟨x, hx⟩ : ∃ x, ps[k]? = some x := ⟨_, List.getElem?_eq_getElem hlt⟩
        obtain ⟨g, o, rfl, hc0⟩ := HC.out (by omega)
        obtain ⟨cx0, cy0⟩ := hc0 k x hx
        have hgl : g < w0.heap.size := World.block_lt_of_cell? _ _ cx0
        have KX : Hid (∀ wx, Below w0.heap.size w0 wx → wx.cell? ⟨g, o + k * 2, none⟩ = some (.int .i64 x.1) ∧ wx.cell? ⟨g, o + k * 2 + 1, none⟩ = some (.int .u8 x.2.toNat)) :=
          Lib.hid (fun wx hb => ⟨(hb.cell (p := ⟨g, o + k * 2, none⟩) hgl).trans cx0, (hb.cell (p := ⟨g, o + k * 2 + 1, none⟩) hgl).trans cy0⟩)
        obtain ⟨cx, cy⟩ := KX.out wr S1.out.below
        clear hc0 hx cx0 cy0
        have hn0 : (0 : Int) ≤ (k : Int) := Int.natCast_nonneg _
        have hn1 : (k : Int) < (ps.length : Int) := by omega
        have hgl' : g < wr.drew.heap.size := Nat.lt_of_lt_of_le hgl S1.out.below.size
        have S1d : Hid (St w0 wr.drew own1 b D1) := Lib.hid (S1.out.other (Chg.refl (fun _ => False) wr).drew (fun _ f => f.elim))
        have B1d : Hid (Bo w0 wr.drew own1 bown1 bv L) := Lib.hid (B1.out.chg (Chg.refl (fun _ => False) wr).drew (fun _ _ f => f))
        have Dn1d : Hid (Dn w0 wr.drew own1 bown1 (.slice da dn.length dc) dn) := Lib.hid (Dn1.out.chg (Chg.refl (fun _ => False) wr).drew (fun _ _ f => f))
        have HG := Lib.hid hgl'
        have Hwr := C1.out.wr
        have Hpn : D1.pending.length < 1000000 := by have := C1.out.pn; rw [C1.out.pending, doneP_length]; omega
        have hcap1 := Lib.hid C1.out.cap
        clear hgl'
        by_cases hw : x.1 < 0 ∨ (pg : Int) < x.1
        · have HD := Lib.hid (C_refuse C1.out x.1 (rep 4096 x.2) hw)
          have HW := Lib.hid hw
          clear hw
          go_wp2_with fail
          go_region_held3 (fun w' => w'.cell? ⟨g, o + k * 2, none⟩ = some (.int .i64 x.1) ∧ w'.cell? ⟨g, o + k * 2 + 1, none⟩ = some (.int .u8 x.2.toNat))
            (first
              | exact kx4
              | exact kx5
              | go_keep)
            (first
              | (go_simp; go_at_call 11; refine (full_lit _ x.2 _ rfl).mono ?_; rintro e w4 ⟨rfl, rA, hc4, hlt4⟩; have s4 := S1d.out.other hc4 (fun _ f => f.elim); have kx4 := KX.out w4 s4.below; have S4 := Lib.hid s4; have RA := Lib.hid rA; have B4 := Lib.hid (B1d.out.chg hc4 (fun _ _ f => f)); have Dn4 := Lib.hid (Dn1d.out.chg hc4 (fun _ _ f => f)); clear s4 rA hc4)
              | (go_simp; go_at_call 10; refine (write_page S4.out C1.out.ok x.1 (rep_length _ _) RA.out (S1d.out.free (Nat.le_refl _)) (by rw [hcap1.out]; omega) (by omega) (by omega) HD.out).mono ?_; rintro e w5 ⟨rfl, own5, s5, t5⟩; have kx5 := KX.out w5 s5.below; have S5 := Lib.hid s5; have B5 := Lib.hid (B4.out.step t5); have Dn5 := Lib.hid (Dn4.out.step t5); clear s5 t5))
          obtain ⟨cx5, cy5⟩ := kx5
          by_cases hneg : x.1 < 0
          · go_wp2_with (go_at_call 12; refine (num_any _ _).mono ?_; rintro e w' ⟨rfl, rfl⟩)
            go_roundg (20 - (k + 1))
            case measure => have := Hg.out; omega
            case rel => exact ⟨k + 1, pg, dn, by omega, by omega, rfl, by go_num, rfl, own5, D1, bown1, S5.out, C_more C1.out, B5.out, Dn5.out⟩
          · have hfar : (pg : Int) < x.1 := HW.out.resolve_left hneg
            go_wp2_with (go_at_call 12; refine (num_any _ _).mono ?_; rintro e w' ⟨rfl, rfl⟩)
            go_roundg (20 - (k + 1))
            case measure => have := Hg.out; omega
            case rel => exact ⟨k + 1, pg, dn, by omega, by omega, rfl, by go_num, rfl, own5, D1, bown1, S5.out, C_more C1.out, B5.out, Dn5.out⟩
        · obtain ⟨xi, y⟩ := x
          obtain ⟨i, rfl⟩ : ∃ i : Nat, xi = i := ⟨xi.toNat, by simp only at hw; omega⟩
          simp only at hw cx cy KX
          have hipg : i ≤ pg := by omega
          have HD := Lib.hid (C_write C1.out (by omega) i y hipg)
          clear hw
          go_wp2_with fail
          go_region_held3 (fun w' => w'.cell? ⟨g, o + k * 2, none⟩ = some (.int .i64 i) ∧ w'.cell? ⟨g, o + k * 2 + 1, none⟩ = some (.int .u8 y.toNat))
            (first
              | exact kx4
              | exact kx5
              | go_keep)
            (first
              | (go_simp; go_at_call 11; refine (full_lit _ y _ rfl).mono ?_; rintro e w4 ⟨rfl, rA, hc4, hlt4⟩; have s4 := S1d.out.other hc4 (fun _ f => f.elim); have kx4 := KX.out w4 s4.below; have S4 := Lib.hid s4; have RA := Lib.hid rA; have B4 := Lib.hid (B1d.out.chg hc4 (fun _ _ f => f)); have Dn4 := Lib.hid (Dn1d.out.chg hc4 (fun _ _ f => f)); clear s4 rA hc4)
              | (go_simp; go_at_call 10; refine (write_page S4.out C1.out.ok i (rep_length _ _) RA.out (S1d.out.free (Nat.le_refl _)) (by rw [hcap1.out]; omega) (by omega) (by omega) HD.out.1).mono ?_; rintro e w5 ⟨rfl, own5, s5, t5⟩; have kx5 := KX.out w5 s5.below; have S5 := Lib.hid s5; have B5 := Lib.hid (B4.out.step t5); have Dn5 := Lib.hid (Dn4.out.step t5); clear s5 t5))
          obtain ⟨cx5, cy5⟩ := kx5
          go_wp2_with (first
            | (at_builtin; refine wpList_append_lies _ rfl _ _ _ rfl 0 31 i0 _ 2 16 Try.underlying22 hi hz0 hz1 hz2 rfl (by omega) (.slice da dn.length dc) dn.length (dcells dn) (by rfl) (Dn5.out.2.1.alloc _) ⟨w5.heap.size, 0, none⟩ 1 1 [.int .i64 i, .int .u8 y.toNat] (by rfl) (by rfl) (World.news_of_block (cs := #[.int .i64 i, .int .u8 y.toNat]) (t := 31) (fr := (0, 0)) (heap_alloc_new w5 _)) (by simp [Value.oneCell']) (by omega) (by have := C1.out.pn; unfold maxLen; omega) (by have := C1.out.pn; omega) (Nat.zero_le _) (w5.heap.size + 1) (by simp) ?_; intro gg cap' w6 hown6 hgrow6 hat6 hlt6)
            | (go_at_call 12; refine (num_any _ _).mono ?_; rintro e w' ⟨rfl, rfl⟩))
          all_goals
            have hc6 : Chg (fun x => (Value.slice da dn.length dc).ownBlock = some x) w5 w6 := ((Chg.refl _ w5).alloc _).grown hgrow6 (fun k hk => .inl hk)
            have hsz5 : w0.heap.size ≤ w5.heap.size := S5.out.below.size
            have hDn6 : Dn w0 w6 own5 bown1 (.slice (some ⟨gg, 0, none⟩) (dn.length + 1) cap') (dn ++ [(i, y)]) := by
              refine ⟨⟨_, _, by rw [List.length_append]; rfl⟩, by rw [List.length_append, dcells_snoc]; exact hown6, fun x e => ?_⟩
              obtain rfl : gg = x := by simpa [Value.ownBlock] using e
              rcases hat6 with e | e
              · have := Dn5.out.2.2 _ e
                exact ⟨this.1, hlt6, this.2.2⟩
              · exact ⟨by omega, hlt6, S5.out.free (by omega), fun e2 => by have := (B5.out.lt _ e2).2.1; omega⟩
            have hS6 := S5.out.other hc6 (fun x e => ⟨(Dn5.out.2.2 x e).2.2.1, (Dn5.out.2.2 x e).1⟩)
            have hB6 := B5.out.chg hc6 (fun x e e2 => (Dn5.out.2.2 x e2).2.2.2 e)
            go_roundg (20 - (k + 1))
            case measure => have := Hg.out; omega
            case rel =>
              exact ⟨k + 1, max pg (i + 1), dn ++ [(i, y)], by omega, by omega, rfl, by go_num, by first | (rw [show max pg (i + 1) = pg by omega]) | (rw [show max pg (i + 1) = i + 1 by omega]; go_num), own5, _, bown1, hS6, HD.out.2, hB6, hDn6⟩
      · obtain rfl : k = 20 := by omega
        go_wp2_with fail
        exact HX.out wr ⟨dn, pg, 20, by omega, own1, D1, bown1, S1.out, C1.out, B1.out, Dn1.out⟩
    · go_wp2_with fail
      exact HX.out wr ⟨dn, pg, k, by omega, own1, D1, bown1, S1.out, C1.out, B1.out, Dn1.out⟩

end Go.Proofs.Ytckioocahmbhkaa
