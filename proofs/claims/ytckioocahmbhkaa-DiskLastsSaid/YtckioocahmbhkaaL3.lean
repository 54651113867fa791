/- The law DiskLasts: its outer loop. -/
import Derived.Test.YtckioocahmbhkaaL2
import Derived.WalkKit
import Derived.Outline
import Derived.Deep.DeepCutAuto
import Derived.Deep.LoopGhost
import Derived.Deep.CutBlock
namespace Go.Proofs.Ytckioocahmbhkaa
open Go Go.RowKit Go.Maps Go.MuLone

set_option maxRecDepth 100000 in
set_option maxHeartbeats 8000000 in
theorem dl_loop {Q0 : Exit → Act → World → Prop} {s3 s4 s5 s6 s7 s11 s12 s13 s14 s15 s16 s17 s18 s19 s20 s21 s22 s23 s24 s25 s26 s27 s28 s29 s30 s31 s32 s33 s34 s35 s36 s37 s38 s39 s40 s41 s42 s43 s44 s45 s46 s47 s48 s49 s50 s51 s52 s53 s54 s55 s56 s57 s58 s59 s60 s61 s62 s63 s64 s65 s66 s67 s68 s69 s70 s71 s72 s73 s74 s75 s76 s77 s78 s79 s80 s81 s82 s83 s84 s85 s86 s87 s88 s89 s90 s91 s92 s93 s94 s95 s96 s97 s98 s99 s100 s101 s102 s103 s104 s105 s106 s107 s108 s109 s110 s111 s112 s113 s114 s115 s116 s117 s118 s119 s120 s121 s122 s123 s124 s125 s126 s127 s128 s129 s130 s131 s132 s133 s134 s135 s136 s137 s138 s139 s140 s141 s142 s143 s144 s145 s146 s147 s148 s149 s150 s151 s152 s153 s154 s155 s156 s157 s158 s159 s160 s161 s162 s163 s164 s165 s166 s167 s168 s169 s170 s171 s172 s173 s174 s175 s176 s177 s178 s179 s180 s181 s182 s183 s184 s185 s186 s187 s188 s189 s190 s191 s192 s193 s194 s195 s196 s197 s198 s199 s200 s201 s202 s203 s204 s205 s206 s207 s208 s209 s210 s211 s212 s213 s214 s215 s216 s217 s218 s219 s220 s221 s222 s223 s224 : Value} (w0 w : World) (b : Nat) (C : Int) (hC1 : 2 ≤ C) (hC : C ≤ 40) (la : Option Addr) (lcap : Nat) (ps : List (Int × UInt8)) (hl : PutsA w0 (.slice la ps.length lcap) ps) (sa : Option Addr) (scap : Nat) (bs : List Bool) (hs : BoolsA w0 (.slice sa bs.length scap) bs) (hL : Lx w0 w b C 0 (.slice none 0 0) [])
    (hexit : ∀ ⦃u6 u9 u10 u11 u12 u13 u14 u15 u34 u35 u36 u37 u38 u39 u40 u41 u42 u43 u44 u45 u46 u47 u48 u49 u50 u51 u52 u53 u54 u55 u56 u57 u58 u59 u60 u61 u62 u63 u64 u65 u66 u67 u68 u69 u70 u71 u72 u73 u74 u75 u76 u77 u78 u79 u80 u81 u82 u83 u84 u85 u86 u87 u88 u89 u90 u91 u92 u93 u94 u95 u96 u97 u98 u99 u100 u101 u102 u103 u104 u105 u106 u107 u108 u109 u110 u111 u112 u113 u114 u115 u116 u117 u118 u119 u120 u121 u122 u123 u124 u125 u126 u127 u128 u129 u130 u131 u132 u133 u134 u135 u136 u137 u138 u139 u140 u141 u142 u143 u144 u145 u146 u147 u148 u149 u150 u151 u152 u153 u154 u155 u156 u157 u158 u159 u160 u161 u162 u163 u164 u165 u166 u167 u168 u169 u170 u171 u172 u173 u174 u175 u176 u177 u178 u179 u180 u181 u182 u183 u184 u185 u186 u187 u188 u189 u190 u191 u192 u193 : Value⦄ (w' : World), (∃ n book, n ≤ 60 ∧ Lx w0 w' b C n u9 book) → Q0 .normal ⟨List.toArray (.int .i64 C :: .slice la ps.length lcap :: .slice sa bs.length scap :: s3 :: s4 :: s5 :: u6 :: s7 :: .pointer (some ⟨b, 0, none⟩) :: u9 :: u10 :: u11 :: u12 :: u13 :: u14 :: u15 :: s16 :: s17 :: s18 :: s19 :: s20 :: s21 :: s22 :: s23 :: s24 :: s25 :: s26 :: s27 :: s28 :: s29 :: s30 :: s31 :: s32 :: s33 :: u34 :: u35 :: u36 :: u37 :: u38 :: u39 :: u40 :: u41 :: u42 :: u43 :: u44 :: u45 :: u46 :: u47 :: u48 :: u49 :: u50 :: u51 :: u52 :: u53 :: u54 :: u55 :: u56 :: u57 :: u58 :: u59 :: u60 :: u61 :: u62 :: u63 :: u64 :: u65 :: u66 :: u67 :: u68 :: u69 :: u70 :: u71 :: u72 :: u73 :: u74 :: u75 :: u76 :: u77 :: u78 :: u79 :: u80 :: u81 :: u82 :: u83 :: u84 :: u85 :: u86 :: u87 :: u88 :: u89 :: u90 :: u91 :: u92 :: u93 :: u94 :: u95 :: u96 :: u97 :: u98 :: u99 :: u100 :: u101 :: u102 :: u103 :: u104 :: u105 :: u106 :: u107 :: u108 :: u109 :: u110 :: u111 :: u112 :: u113 :: u114 :: u115 :: u116 :: u117 :: u118 :: u119 :: u120 :: u121 :: u122 :: u123 :: u124 :: u125 :: u126 :: u127 :: u128 :: u129 :: u130 :: u131 :: u132 :: u133 :: u134 :: u135 :: u136 :: u137 :: u138 :: u139 :: u140 :: u141 :: u142 :: u143 :: u144 :: u145 :: u146 :: u147 :: u148 :: u149 :: u150 :: u151 :: u152 :: u153 :: u154 :: u155 :: u156 :: u157 :: u158 :: u159 :: u160 :: u161 :: u162 :: u163 :: u164 :: u165 :: u166 :: u167 :: u168 :: u169 :: u170 :: u171 :: u172 :: u173 :: u174 :: u175 :: u176 :: u177 :: u178 :: u179 :: u180 :: u181 :: u182 :: u183 :: u184 :: u185 :: u186 :: u187 :: u188 :: u189 :: u190 :: u191 :: u192 :: u193 :: s194 :: s195 :: s196 :: s197 :: s198 :: s199 :: s200 :: s201 :: s202 :: s203 :: s204 :: s205 :: s206 :: s207 :: s208 :: s209 :: s210 :: s211 :: s212 :: s213 :: s214 :: s215 :: s216 :: s217 :: s218 :: s219 :: s220 :: s221 :: s222 :: s223 :: s224 :: []), []⟩ w') :
    Code.wp Try.prog (blk 0 Try.f3) Q0 ⟨List.toArray (.int .i64 C :: .slice la ps.length lcap :: .slice sa bs.length scap :: s3 :: s4 :: s5 :: s6 :: s7 :: .pointer (some ⟨b, 0, none⟩) :: .slice none 0 0 :: .int .i64 0 :: s11 :: s12 :: s13 :: s14 :: s15 :: s16 :: s17 :: s18 :: s19 :: s20 :: s21 :: s22 :: s23 :: s24 :: s25 :: s26 :: s27 :: s28 :: s29 :: s30 :: s31 :: s32 :: s33 :: s34 :: s35 :: s36 :: s37 :: s38 :: s39 :: s40 :: s41 :: s42 :: s43 :: s44 :: s45 :: s46 :: s47 :: s48 :: s49 :: s50 :: s51 :: s52 :: s53 :: s54 :: s55 :: s56 :: s57 :: s58 :: s59 :: s60 :: s61 :: s62 :: s63 :: s64 :: s65 :: s66 :: s67 :: s68 :: s69 :: s70 :: s71 :: s72 :: s73 :: s74 :: s75 :: s76 :: s77 :: s78 :: s79 :: s80 :: s81 :: s82 :: s83 :: s84 :: s85 :: s86 :: s87 :: s88 :: s89 :: s90 :: s91 :: s92 :: s93 :: s94 :: s95 :: s96 :: s97 :: s98 :: s99 :: s100 :: s101 :: s102 :: s103 :: s104 :: s105 :: s106 :: s107 :: s108 :: s109 :: s110 :: s111 :: s112 :: s113 :: s114 :: s115 :: s116 :: s117 :: s118 :: s119 :: s120 :: s121 :: s122 :: s123 :: s124 :: s125 :: s126 :: s127 :: s128 :: s129 :: s130 :: s131 :: s132 :: s133 :: s134 :: s135 :: s136 :: s137 :: s138 :: s139 :: s140 :: s141 :: s142 :: s143 :: s144 :: s145 :: s146 :: s147 :: s148 :: s149 :: s150 :: s151 :: s152 :: s153 :: s154 :: s155 :: s156 :: s157 :: s158 :: s159 :: s160 :: s161 :: s162 :: s163 :: s164 :: s165 :: s166 :: s167 :: s168 :: s169 :: s170 :: s171 :: s172 :: s173 :: s174 :: s175 :: s176 :: s177 :: s178 :: s179 :: s180 :: s181 :: s182 :: s183 :: s184 :: s185 :: s186 :: s187 :: s188 :: s189 :: s190 :: s191 :: s192 :: s193 :: s194 :: s195 :: s196 :: s197 :: s198 :: s199 :: s200 :: s201 :: s202 :: s203 :: s204 :: s205 :: s206 :: s207 :: s208 :: s209 :: s210 :: s211 :: s212 :: s213 :: s214 :: s215 :: s216 :: s217 :: s218 :: s219 :: s220 :: s221 :: s222 :: s223 :: s224 :: []), []⟩ w := by
  have HX := Lib.hid hexit
  have HLx := Lib.hid hL
  have HS := Lib.hid hs
  obtain ⟨la', lc', he, hll, hcells⟩ := hl
  cases he
  have HC := Lib.hid hcells
  clear hexit hL hcells hs
  conv => arg 2; whnf
  go_wp2_with fail
  go_loopg [9, 10] 60 (fun g bv iv wr => ∃ (n : Nat) (book : List UInt8), n ≤ 60 ∧ n ≤ ps.length ∧ g = 60 - n ∧ iv = .int .i64 n ∧ Lx w0 wr b C n bv book)
  case atStart => exact ⟨0, [], by omega, by omega, rfl, rfl, HLx.out⟩
  case round =>
    obtain ⟨n, book, hn, hnl, hg, rfl, hL1⟩ := hrel
    have Hg := Lib.hid hg
    have L1 := Lib.hid hL1
    obtain ⟨ba, bcap, rfl⟩ : ∃ a c, u9 = .slice a book.length c := by obtain ⟨_, _, _, _, h, _⟩ := hL1; exact h.1
    have hbl : book.length ≤ 60 := by obtain ⟨_, _, _, _, _, h⟩ := hL1; omega
    clear hg hL1
    by_cases hlt : n < ps.length
    · by_cases h60 : n < 60
      · obtain ⟨x, hx⟩ : ∃ x, ps[n]? = some x := ⟨_, List.getElem?_eq_getElem hlt⟩
        obtain ⟨g, o, rfl, hc0⟩ := HC.out (by omega)
        obtain ⟨cx0, cy0⟩ := hc0 n x hx
        have hgl : g < w0.heap.size := World.block_lt_of_cell? _ _ cx0
        have KX : Hid (PutAt w0 g o n x) :=
          Lib.hid ⟨hgl, fun wx hb => ⟨(hb.cell (p := ⟨g, o + n * 2, none⟩) hgl).trans cx0, (hb.cell (p := ⟨g, o + n * 2 + 1, none⟩) hgl).trans cy0⟩⟩
        clear hc0 hx cx0 cy0
        go_upto_region 11 with fail
        refine dl_write w0 wr b C hC n g o ps.length lcap x KX.out hlt hll h60 _ book L1.out ?_
        intro u11 u44 u45 u46 u47 u48 u49 u50 u51 u52 u53 u54 u55 u56 w1 h1
        obtain ⟨c, rfl, hLw⟩ := h1
        have LW := Lib.hid hLw
        have hb1 : Below w0.heap.size w0 w1 := by obtain ⟨_, _, h, _⟩ := hLw; exact h.below
        have hiff : c = 0 ↔ May C book x := by obtain ⟨_, _, _, _, h, _⟩ := hLw; exact h
        have HB1 := Lib.hid hb1
        have HIF := Lib.hid hiff
        clear hLw hb1 hiff
        go_upto_region 12 with fail
        refine dl_may w1 C n g o ps.length lcap x (KX.out.2 w1 HB1.out).1 hlt hll h60 ba book bcap hbl ?_
        intro u12 u57 u58 u59 u60 u61 u62 u63 u64 u65 u66 u67 u68 u69 u70 u71 u72 u73 u74 u75 u76 u77 u78 u79 u80 u81 w2 h2
        obtain ⟨mb, rfl, hmb, hw2⟩ := h2
        subst w2
        have HMB := Lib.hid hmb
        clear hmb
        go_upto_region 13 with fail
        refine dl_told w1 c mb (HIF.out.trans HMB.out.symm) ?_
        intro u82 u83 u84 u85 u86 w3 h3
        obtain ⟨rfl, hw3⟩ := h3
        subst w3
        go_upto_region 15 with fail
        refine dl_new w1 n g o ps.length lcap x (KX.out.2 w1 HB1.out).1 hlt hll h60 ba book bcap hbl mb ?_
        intro u87 u88 u89 u90 u91 u92 u93 u94 u95 u96 u97 w4 h4
        obtain ⟨sb, rfl, hsb, hw4⟩ := h4
        subst w4
        have HSB := Lib.hid hsb
        clear hsb
        go_upto_if 97 with fail
        refine dl_book w0 w1 b C n g o ps.length lcap x (KX.out.2 w1 HB1.out).1 (KX.out.2 w1 HB1.out).2 hlt hll h60 ba book bcap c LW.out mb sb HMB.out HSB.out ?_
        intro u9 u98 u99 u100 u101 u102 u103 u104 u105 u106 u107 u108 u109 u110 u111 u112 u113 u114 u115 u116 u117 u118 w5 h5
        obtain ⟨bw, hbw⟩ : ∃ bw, bw = bookW C book x := ⟨_, rfl⟩
        rw [← hbw] at h5
        have L5 := Lib.hid h5
        obtain ⟨ba5, bcap5, rfl⟩ : ∃ a c, u9 = .slice a bw.length c := by obtain ⟨_, _, _, _, h, _⟩ := h5; exact h.1
        have HB5 : Hid (Below w0.heap.size w0 w5) := Lib.hid (by obtain ⟨_, _, h, _⟩ := h5; exact h.below)
        clear h5 hbw LW HIF HMB HSB L1
        go_upto_region 19 with fail
        refine dl_ask w0 w5 n sa bs scap HS.out HB5.out h60 ?_
        intro u119 u120 u121 u122 u123 u124 u125 u126 u127 u128 w6 h6
        obtain ⟨sb, rfl, hw6⟩ := h6
        subst w6
        go_upto_if 128 with fail
        refine dl_sync w0 w5 b C (n + 1) ba5 bw bcap5 L5.out (by omega) sb ?_
        intro u6 u11 u129 u130 u131 u132 u133 u134 u135 u136 u137 u138 u139 u140 u141 u142 u143 u144 u145 u146 u147 u148 w7 h7
        obtain ⟨own7, D7, hS7, hL7, hB7, hbl7⟩ := h7
        have S7 := Lib.hid hS7
        have L7 := Lib.hid hL7
        have B7 := Lib.hid hB7
        have N7 := Lib.hid hbl7
        have P7 : Hid (D7.pages = bw.length) := Lib.hid (by rw [hL7.pages, bookP_length])
        have hb61 : bw.length ≤ 61 := by omega
        clear hS7 hL7 hB7 hbl7 L5
        go_upto_block 2 with (go_at_call 16; refine (pages_st S7.out L7.out.ok P7.out).mono ?_; rintro e w8 ⟨rfl, s8, t8⟩; have S8 := Lib.hid s8; have B8 := Lib.hid (B7.out.step t8); clear s8 t8)
        refine dl_reads w0 w8 b C (n + 1) ba5 bw bcap5 ⟨own7, D7, S8.out, L7.out, B8.out, N7.out⟩ (by omega) ?_
        intro u6 u13 u14 u15 u154 u155 u156 u157 u158 u159 u160 u161 u162 u163 u164 u165 u166 u167 u168 u169 u170 u171 u172 u173 u174 u175 u176 u177 u178 u179 u180 u181 u182 u183 u184 u185 u186 u187 u188 u189 u190 u191 u192 u193 w9 h9
        have L9 := Lib.hid h9
        clear h9
        go_wp2_with fail
        go_roundg (60 - (n + 1))
        case measure => have := Hg.out; omega
        case rel => exact ⟨n + 1, bw, by omega, by omega, rfl, by go_num, L9.out⟩
      · obtain rfl : n = 60 := by omega
        go_wp2_with fail
        exact HX.out _ ⟨60, book, by omega, L1.out⟩
    · go_wp2_with fail
      exact HX.out _ ⟨n, book, by omega, L1.out⟩

end Go.Proofs.Ytckioocahmbhkaa
