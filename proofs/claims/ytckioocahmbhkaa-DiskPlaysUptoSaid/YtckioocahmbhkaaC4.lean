/- The law DiskCrashes: its first loop: some pages are written. -/
import Derived.Test.YtckioocahmbhkaaC3
import Derived.WalkKit
import Derived.Outline
import Derived.Deep.DeepCutAuto
import Derived.Deep.LoopGhost
namespace Go.Proofs.Ytckioocahmbhkaa
open Go Go.RowKit Go.Maps Go.MuLone

/-- The disk shows the pages L, the law's book has them. -/
def Ph1 (w0 w : World) (b n : Nat) (bv : Value) (L : List (List UInt8)) : Prop := ∃ own D bown, St w0 w own b D ∧ LInv D 60 n L ∧ Bo w0 w own bown bv L

set_option maxRecDepth 100000 in
set_option maxHeartbeats 4000000 in
theorem dc_loop1 {Q0 : Exit → Act → World → Prop} {s1 s2 s3 s4 s5 s6 s7 s11 s12 s13 s14 s15 s16 s17 s18 s19 s20 s21 s22 s23 s24 s25 s26 s27 s28 s29 s30 s31 s32 s33 s34 s35 s36 s37 s38 s39 s40 s41 s42 s43 s44 s45 s46 s47 s48 s49 s50 s51 s52 s53 s54 s55 s56 s57 s58 s59 s60 s61 s62 s63 s64 s65 s66 s67 s68 s69 s70 s71 s72 s73 s74 s75 s76 s77 s78 s79 s80 s81 s82 s83 s84 s85 s86 s87 s88 s89 s90 s91 s92 s93 s94 s95 s96 s97 s98 s99 s100 s101 s102 s103 s104 s105 s106 s107 s108 s109 s110 s111 s112 s113 s114 s115 s116 s117 s118 s119 s120 s121 s122 s123 s124 s125 s126 s127 s128 s129 s130 s131 s132 s133 s134 s135 s136 s137 s138 s139 s140 s141 s142 s143 s144 s145 s146 s147 s148 s149 s150 s151 s152 s153 s154 s155 s156 s157 s158 s159 s160 s161 s162 s163 s164 s165 s166 s167 s168 s169 s170 s171 s172 s173 s174 s175 s176 s177 s178 s179 s180 s181 s182 s183 s184 s185 s186 s187 s188 s189 s190 s191 s192 s193 s194 s195 s196 s197 s198 s199 s200 s201 s202 s203 s204 s205 s206 s207 s208 s209 s210 s211 s212 s213 s214 s215 s216 s217 s218 s219 s220 s221 s222 s223 s224 s225 s226 s227 s228 s229 s230 s231 s232 s233 s234 s235 s236 s237 s238 s239 s240 s241 s242 s243 s244 s245 s246 s247 s248 s249 s250 s251 s252 s253 s254 s255 s256 s257 s258 s259 s260 s261 s262 s263 s264 s265 s266 s267 s268 s269 s270 s271 s272 s273 s274 s275 s276 s277 s278 s279 s280 s281 s282 s283 s284 s285 s286 s287 : Value} (w0 w : World) (b : Nat) (a0 : Option Addr) (c0 : Nat) (bs : List UInt8) (hs : SeesB w0 (.slice a0 bs.length c0) bs) (hbl : bs.length ≤ 140737488351232) (hp : Ph1 w0 w b 0 (.slice none 0 0) [])
    (hexit : ∀ ⦃u6 u9 u10 u11 u12 u41 u42 u43 u44 u45 u46 u47 u48 u49 u50 u51 u52 u53 u54 u55 u56 u57 u58 u59 u60 u61 u62 u63 u64 u65 u66 u67 u68 u69 u70 : Value⦄ (w' : World), (Ph1 w0 w' b 20 u9 (bookP (bs.take 20))) → Q0 .normal ⟨List.toArray (.slice a0 bs.length c0 :: s1 :: s2 :: s3 :: s4 :: s5 :: u6 :: s7 :: .pointer (some ⟨b, 0, none⟩) :: u9 :: u10 :: u11 :: u12 :: s13 :: s14 :: s15 :: s16 :: s17 :: s18 :: s19 :: s20 :: s21 :: s22 :: s23 :: s24 :: s25 :: s26 :: s27 :: s28 :: s29 :: s30 :: s31 :: s32 :: s33 :: s34 :: s35 :: s36 :: s37 :: s38 :: s39 :: s40 :: u41 :: u42 :: u43 :: u44 :: u45 :: u46 :: u47 :: u48 :: u49 :: u50 :: u51 :: u52 :: u53 :: u54 :: u55 :: u56 :: u57 :: u58 :: u59 :: u60 :: u61 :: u62 :: u63 :: u64 :: u65 :: u66 :: u67 :: u68 :: u69 :: u70 :: s71 :: s72 :: s73 :: s74 :: s75 :: s76 :: s77 :: s78 :: s79 :: s80 :: s81 :: s82 :: s83 :: s84 :: s85 :: s86 :: s87 :: s88 :: s89 :: s90 :: s91 :: s92 :: s93 :: s94 :: s95 :: s96 :: s97 :: s98 :: s99 :: s100 :: s101 :: s102 :: s103 :: s104 :: s105 :: s106 :: s107 :: s108 :: s109 :: s110 :: s111 :: s112 :: s113 :: s114 :: s115 :: s116 :: s117 :: s118 :: s119 :: s120 :: s121 :: s122 :: s123 :: s124 :: s125 :: s126 :: s127 :: s128 :: s129 :: s130 :: s131 :: s132 :: s133 :: s134 :: s135 :: s136 :: s137 :: s138 :: s139 :: s140 :: s141 :: s142 :: s143 :: s144 :: s145 :: s146 :: s147 :: s148 :: s149 :: s150 :: s151 :: s152 :: s153 :: s154 :: s155 :: s156 :: s157 :: s158 :: s159 :: s160 :: s161 :: s162 :: s163 :: s164 :: s165 :: s166 :: s167 :: s168 :: s169 :: s170 :: s171 :: s172 :: s173 :: s174 :: s175 :: s176 :: s177 :: s178 :: s179 :: s180 :: s181 :: s182 :: s183 :: s184 :: s185 :: s186 :: s187 :: s188 :: s189 :: s190 :: s191 :: s192 :: s193 :: s194 :: s195 :: s196 :: s197 :: s198 :: s199 :: s200 :: s201 :: s202 :: s203 :: s204 :: s205 :: s206 :: s207 :: s208 :: s209 :: s210 :: s211 :: s212 :: s213 :: s214 :: s215 :: s216 :: s217 :: s218 :: s219 :: s220 :: s221 :: s222 :: s223 :: s224 :: s225 :: s226 :: s227 :: s228 :: s229 :: s230 :: s231 :: s232 :: s233 :: s234 :: s235 :: s236 :: s237 :: s238 :: s239 :: s240 :: s241 :: s242 :: s243 :: s244 :: s245 :: s246 :: s247 :: s248 :: s249 :: s250 :: s251 :: s252 :: s253 :: s254 :: s255 :: s256 :: s257 :: s258 :: s259 :: s260 :: s261 :: s262 :: s263 :: s264 :: s265 :: s266 :: s267 :: s268 :: s269 :: s270 :: s271 :: s272 :: s273 :: s274 :: s275 :: s276 :: s277 :: s278 :: s279 :: s280 :: s281 :: s282 :: s283 :: s284 :: s285 :: s286 :: s287 :: []), []⟩ w') :
    Code.wp Try.prog (blk 0 Try.f5) Q0 ⟨List.toArray (.slice a0 bs.length c0 :: s1 :: s2 :: s3 :: s4 :: s5 :: s6 :: s7 :: .pointer (some ⟨b, 0, none⟩) :: .slice none 0 0 :: .int .i64 0 :: s11 :: s12 :: s13 :: s14 :: s15 :: s16 :: s17 :: s18 :: s19 :: s20 :: s21 :: s22 :: s23 :: s24 :: s25 :: s26 :: s27 :: s28 :: s29 :: s30 :: s31 :: s32 :: s33 :: s34 :: s35 :: s36 :: s37 :: s38 :: s39 :: s40 :: s41 :: s42 :: s43 :: s44 :: s45 :: s46 :: s47 :: s48 :: s49 :: s50 :: s51 :: s52 :: s53 :: s54 :: s55 :: s56 :: s57 :: s58 :: s59 :: s60 :: s61 :: s62 :: s63 :: s64 :: s65 :: s66 :: s67 :: s68 :: s69 :: s70 :: s71 :: s72 :: s73 :: s74 :: s75 :: s76 :: s77 :: s78 :: s79 :: s80 :: s81 :: s82 :: s83 :: s84 :: s85 :: s86 :: s87 :: s88 :: s89 :: s90 :: s91 :: s92 :: s93 :: s94 :: s95 :: s96 :: s97 :: s98 :: s99 :: s100 :: s101 :: s102 :: s103 :: s104 :: s105 :: s106 :: s107 :: s108 :: s109 :: s110 :: s111 :: s112 :: s113 :: s114 :: s115 :: s116 :: s117 :: s118 :: s119 :: s120 :: s121 :: s122 :: s123 :: s124 :: s125 :: s126 :: s127 :: s128 :: s129 :: s130 :: s131 :: s132 :: s133 :: s134 :: s135 :: s136 :: s137 :: s138 :: s139 :: s140 :: s141 :: s142 :: s143 :: s144 :: s145 :: s146 :: s147 :: s148 :: s149 :: s150 :: s151 :: s152 :: s153 :: s154 :: s155 :: s156 :: s157 :: s158 :: s159 :: s160 :: s161 :: s162 :: s163 :: s164 :: s165 :: s166 :: s167 :: s168 :: s169 :: s170 :: s171 :: s172 :: s173 :: s174 :: s175 :: s176 :: s177 :: s178 :: s179 :: s180 :: s181 :: s182 :: s183 :: s184 :: s185 :: s186 :: s187 :: s188 :: s189 :: s190 :: s191 :: s192 :: s193 :: s194 :: s195 :: s196 :: s197 :: s198 :: s199 :: s200 :: s201 :: s202 :: s203 :: s204 :: s205 :: s206 :: s207 :: s208 :: s209 :: s210 :: s211 :: s212 :: s213 :: s214 :: s215 :: s216 :: s217 :: s218 :: s219 :: s220 :: s221 :: s222 :: s223 :: s224 :: s225 :: s226 :: s227 :: s228 :: s229 :: s230 :: s231 :: s232 :: s233 :: s234 :: s235 :: s236 :: s237 :: s238 :: s239 :: s240 :: s241 :: s242 :: s243 :: s244 :: s245 :: s246 :: s247 :: s248 :: s249 :: s250 :: s251 :: s252 :: s253 :: s254 :: s255 :: s256 :: s257 :: s258 :: s259 :: s260 :: s261 :: s262 :: s263 :: s264 :: s265 :: s266 :: s267 :: s268 :: s269 :: s270 :: s271 :: s272 :: s273 :: s274 :: s275 :: s276 :: s277 :: s278 :: s279 :: s280 :: s281 :: s282 :: s283 :: s284 :: s285 :: s286 :: s287 :: []), []⟩ w := by
  have HX := Lib.hid hexit
  have HS := Lib.hid hs
  have HP := Lib.hid hp
  clear hexit hs hp
  obtain ⟨i0, hi, hz0, hz1, hz2⟩ := info_parts info27
  conv => arg 2; whnf
  go_wp2_with fail
  go_loopg [9, 10] 20 (fun g bv iv wr => ∃ k : Nat, k ≤ 20 ∧ k ≤ bs.length ∧ g = 20 - k ∧ iv = .int .i64 k ∧ Ph1 w0 wr b k bv (bookP (bs.take k)))
  case atStart => exact ⟨0, by omega, by omega, rfl, rfl, HP.out⟩
  case round =>
    obtain ⟨k, hk1, hk2, hg, rfl, own1, D1, bown1, hS1, hL1, hB1⟩ := hrel
    have Hg := Lib.hid hg
    have S1 := Lib.hid hS1
    have L1 := Lib.hid hL1
    have B1 := Lib.hid hB1
    clear hg hS1 hL1 hB1
    by_cases hlt : k < bs.length
    · by_cases h20 : k < 20
      · obtain ⟨x, hx⟩ : ∃ x, bs[k]? = some x := ⟨_, List.getElem?_eq_getElem hlt⟩
        obtain ⟨ag, ao, rfl, cx0⟩ : ∃ ag ao, a0 = some ⟨ag, ao, none⟩ ∧ w0.cell? ⟨ag, ao + k, none⟩ = some (bV x) := by
          obtain ⟨a', c', e, hn0, hcell⟩ := HS.out
          cases e
          cases a0 with
          | none => have := hn0 rfl; rw [this] at hlt; simp at hlt
          | some ad =>
            have h0 := hcell ad rfl 0 _ (List.getElem?_eq_getElem (by omega))
            have hk := hcell ad rfl k x hx
            rw [addr_head h0, addr_add] at hk
            exact ⟨_, _, by rw [← addr_head h0], hk⟩
        have hgl : ag < w0.heap.size := World.block_lt_of_cell? _ _ cx0
        have KX : Hid (∀ wx, Below w0.heap.size w0 wx → wx.cell? ⟨ag, ao + k, none⟩ = some (.int .u8 x.toNat)) := Lib.hid fun wx hb => (hb.cell (p := ⟨ag, ao + k, none⟩) hgl).trans cx0
        have cx1 := KX.out wr S1.out.below
        have hlen : (bookP (bs.take k)).length = k := by rw [bookP_length, List.length_take]; omega
        have hw := L_write L1.out k (rep 4096 x) (rep_length _ _) (by omega) (by omega) (by omega)
        rw [if_pos hlen.symm, ← bookP_snoc] at hw
        have ht : bs.take k ++ [x] = bs.take (k + 1) := by rw [List.take_add_one, hx]; rfl
        rw [ht] at hw
        have HW := Lib.hid hw
        have HX1 := Lib.hid hx
        have Hlen := Lib.hid hlen
        have hwr1 := L1.out.wr
        have hpn1 := L1.out.pn
        have hcap1 := Lib.hid L1.out.cap
        clear hx cx0 hw hlen ht
        go_wp2_with fail
        refine (full_lit _ x _ rfl).mono ?_
        rintro e w2 ⟨rfl, rA, hc2, hlt2⟩
        obtain ⟨gA, hgA⟩ : ∃ gA, gA = wr.heap.size := ⟨_, rfl⟩
        rw [← hgA] at rA ⊢
        have fA : ¬ own1.blocks gA := S1.out.free (by omega)
        have s2 := S1.out.other hc2 (fun _ f => f.elim)
        have B2 := Lib.hid (B1.out.chg hc2 (fun _ _ f => f))
        clear hgA hlt2 hc2
        go_wp2_with fail
        refine (write_page s2 L1.out.ok k (rep_length _ _) rA fA (by rw [hcap1.out]; omega) (by omega) (by omega) HW.out.1).mono ?_
        rintro e w3 ⟨rfl, own3, s3', t3⟩
        have S3 := Lib.hid s3'
        have B3 := Lib.hid (B2.out.step t3)
        have cx3 := KX.out w3 s3'.below
        clear s2 t3 s3' rA fA
        go_wp2_with fail
        refine (full_lit _ x _ rfl).mono ?_
        rintro e w4 ⟨rfl, rB, hc4, hlt4⟩
        obtain ⟨gB, hgB⟩ : ∃ gB, gB = w3.heap.size := ⟨_, rfl⟩
        rw [← hgB] at rB ⊢
        have fB : ¬ own3.blocks gB := S3.out.free (by omega)
        have S4 := Lib.hid (S3.out.other hc4 (fun _ f => f.elim))
        have B4 := Lib.hid (B3.out.chg hc4 (fun _ _ f => f))
        have fB2 : ¬ bown1.blocks gB := fun e => by have := (B3.out.lt _ e).2.1; omega
        have fB3 : w0.heap.size ≤ gB := by have := S3.out.below.size; omega
        have RB := Lib.hid rB
        have hgB4 : gB < w4.heap.size := row_lt rB
        clear hgB hlt4 hc4 rB
        obtain ⟨ls, hls, hlarr, hlp⟩ := B4.out.last
        obtain ⟨la, lc, rfl, hlnc, hlm, hlg⟩ := ownsRow_slice hlarr.1
        replace B4 : Hid (Bo w0 w4 own3 bown1 (.slice la k lc) (bookP (bs.take k))) := by have h := B4.out; rw [Hlen.out] at h; exact Lib.hid h
        rw [Hlen.out] at hls hlarr hlnc hlg ⊢
        have Hls := Lib.hid hls
        have Hlp := Lib.hid hlp
        have Harr := Lib.hid hlarr
        clear hls hlp hlarr
        go_wp2_with (first
          | (at_builtin; refine wpList_append_lies _ rfl _ _ _ rfl 0 27 i0 _ 1 24 Try.underlying46 hi hz0 hz1 hz2 rfl (by omega) (.slice la k lc) k ls (by rfl) (Harr.out.1.alloc _) ⟨w4.heap.size, 0, none⟩ 1 1 [.slice (some ⟨gB, 0, none⟩) 4096 4096] (by rfl) (by rfl) (World.news_of_block (cs := #[.slice (some ⟨gB, 0, none⟩) 4096 4096]) (t := 27) (fr := (0, 0)) (heap_alloc_new w4 _)) (by simp [Value.oneCell']) (by omega) (by unfold maxLen; omega) (by omega) (Nat.zero_le _) (w4.heap.size + 1) (by simp) ?_; intro gg cap' w5 hown5 hgrow5 hat5 hlt5)
          | (go_at_call 12; refine (num_any _ _).mono ?_; rintro e w' ⟨rfl, rfl⟩))
        have hsz4 : w0.heap.size ≤ w4.heap.size := S4.out.below.size
        have hc5 : Chg (fun x => (Value.slice la k lc).ownBlock = some x) w4 w5 := ((Chg.refl _ w4).alloc _).grown hgrow5 (fun k hk => .inl hk)
        have hla : ∀ x, (Value.slice la k lc).ownBlock = some x → w0.heap.size ≤ x ∧ x < w4.heap.size ∧ ¬ own3.blocks x := fun x e => B4.out.lt x (Own.blocks_of (Harr.out.2 x e))
        have hlg4 : ∀ x, (Value.slice la k lc).ownBlock = some x → x ≠ gB := fun x e e2 => fB2 (by subst e2; exact Own.blocks_of (Harr.out.2 x e))
        have hB5 : ∃ bown', Bo w0 w5 own3 bown' (.slice (some ⟨gg, 0, none⟩) (k + 1) cap') (bookP (bs.take (k + 1))) := by
          have e1 := HW.out
          have e2 := Hlen.out
          have := Bo.snoc (w' := w5) (g := gB) (ga := gg) (cap := cap') (capg := 4096) (ls := ls) (p := rep 4096 x) B4.out (by rw [e2]; exact Hls.out) Hlp.out Harr.out.2 fB3 fB fB2
            (hat5.imp id (fun e => ⟨by omega, by omega, S4.out.free (by omega)⟩)) hsz4 hc5
            (by rw [rep_length]; exact ownsRow_chg RB.out hc5 (fun y e e2 => by cases e; exact hlg4 _ e2 rfl))
            (by rw [e2, rep_length]; exact hown5)
          rw [e2, ← bookP_snoc] at this
          have ht : bs.take k ++ [x] = bs.take (k + 1) := by
            have hx : bs[k]? = some x := HX1.out
            rw [List.take_add_one, hx]; rfl
          rw [ht] at this
          obtain ⟨b', h1, _⟩ := this
          exact ⟨b', h1⟩
        have s5 := S4.out.other hc5 (fun x e => ⟨(hla x e).2.2, (hla x e).1⟩)
        go_roundg (20 - (k + 1))
        case measure => have := Hg.out; omega
        case rel =>
          obtain ⟨bown', hB5⟩ := hB5
          exact ⟨k + 1, by omega, by omega, rfl, by go_num, own3, _, bown', s5, HW.out.2, hB5⟩
      · obtain rfl : k = 20 := by omega
        go_wp2_with fail
        exact HX.out wr ⟨own1, D1, bown1, S1.out, L1.out, B1.out⟩
    · have hk : k = bs.length := by omega
      have ht : bs.take k = bs.take 20 := by rw [List.take_of_length_le (by omega), List.take_of_length_le (by omega)]
      have HT := Lib.hid ht
      clear ht hk
      go_wp2_with fail
      refine HX.out wr ⟨own1, D1, bown1, S1.out, ?_, ?_⟩
      · rw [← HT.out]; exact ⟨L1.out.cap, L1.out.ok, L1.out.off, L1.out.fuse, L1.out.pages, L1.out.page, L1.out.whole, by have := L1.out.wr; omega, by have := L1.out.pn; omega⟩
      · rw [← HT.out]; exact B1.out

end Go.Proofs.Ytckioocahmbhkaa
