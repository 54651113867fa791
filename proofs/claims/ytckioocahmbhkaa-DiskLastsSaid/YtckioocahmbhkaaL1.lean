/- The law DiskLasts: the pieces of its loop, each by itself: the Write, the test, the book turned. -/
import Derived.Test.YtckioocahmbhkaaL0
import Derived.WalkKit
import Derived.Outline
import Derived.Deep.DeepCutAuto
import Derived.Deep.LoopGhost
import Derived.Deep.CutBlock
import Derived.Deep.RegionHeld3
import Derived.Deep.QuietTactic
import Derived.BigQuiet
namespace Go.Proofs.Ytckioocahmbhkaa
open Go Go.RowKit Go.Maps Go.MuLone

/-- Where a Put of the law's argument lies, in every later world. -/
def PutAt (w0 : World) (g o n : Nat) (x : Int × UInt8) : Prop :=
  g < w0.heap.size ∧ ∀ wx, Below w0.heap.size w0 wx → wx.cell? ⟨g, o + n * 2, none⟩ = some (.int .i64 x.1) ∧ wx.cell? ⟨g, o + n * 2 + 1, none⟩ = some (.int .u8 x.2.toNat)

set_option maxRecDepth 100000 in
set_option maxHeartbeats 4000000 in
theorem dl_write {Q0 : Exit → Act → World → Prop} {s0 s2 s3 s4 s5 s6 s7 s9 s11 s12 s13 s14 s15 s16 s17 s18 s19 s20 s21 s22 s23 s24 s25 s26 s27 s28 s29 s30 s31 s32 s33 s34 s35 s36 s37 s38 s39 s40 s41 s42 s43 s44 s45 s46 s47 s48 s49 s50 s51 s52 s53 s54 s55 s56 s57 s58 s59 s60 s61 s62 s63 s64 s65 s66 s67 s68 s69 s70 s71 s72 s73 s74 s75 s76 s77 s78 s79 s80 s81 s82 s83 s84 s85 s86 s87 s88 s89 s90 s91 s92 s93 s94 s95 s96 s97 s98 s99 s100 s101 s102 s103 s104 s105 s106 s107 s108 s109 s110 s111 s112 s113 s114 s115 s116 s117 s118 s119 s120 s121 s122 s123 s124 s125 s126 s127 s128 s129 s130 s131 s132 s133 s134 s135 s136 s137 s138 s139 s140 s141 s142 s143 s144 s145 s146 s147 s148 s149 s150 s151 s152 s153 s154 s155 s156 s157 s158 s159 s160 s161 s162 s163 s164 s165 s166 s167 s168 s169 s170 s171 s172 s173 s174 s175 s176 s177 s178 s179 s180 s181 s182 s183 s184 s185 s186 s187 s188 s189 s190 s191 s192 s193 s194 s195 s196 s197 s198 s199 s200 s201 s202 s203 s204 s205 s206 s207 s208 s209 s210 s211 s212 s213 s214 s215 s216 s217 s218 s219 s220 s221 s222 s223 s224 : Value} (w0 w : World) (b : Nat) (C : Int) (hC : C ≤ 40) (n : Nat) (g o plen pcap : Nat) (x : Int × UInt8) (hk : PutAt w0 g o n x) (hn : n < plen) (hpl : plen ≤ 9223372036854775807) (h60 : n < 60) (v : Value) (book : List UInt8) (hL : Lx w0 w b C n v book)
    (hexit : ∀ ⦃u11 u44 u45 u46 u47 u48 u49 u50 u51 u52 u53 u54 u55 u56 : Value⦄ (w' : World), (∃ c : Int, u11 = .int .i64 c ∧ Lw w0 w' b C n v book x c) → Q0 .normal ⟨List.toArray (s0 :: .slice (some ⟨g, o, none⟩) plen pcap :: s2 :: s3 :: s4 :: s5 :: s6 :: s7 :: .pointer (some ⟨b, 0, none⟩) :: s9 :: .int .i64 n :: u11 :: s12 :: s13 :: s14 :: s15 :: s16 :: s17 :: s18 :: s19 :: s20 :: s21 :: s22 :: s23 :: s24 :: s25 :: s26 :: s27 :: s28 :: s29 :: s30 :: s31 :: s32 :: s33 :: s34 :: s35 :: s36 :: s37 :: s38 :: s39 :: s40 :: s41 :: s42 :: s43 :: u44 :: u45 :: u46 :: u47 :: u48 :: u49 :: u50 :: u51 :: u52 :: u53 :: u54 :: u55 :: u56 :: s57 :: s58 :: s59 :: s60 :: s61 :: s62 :: s63 :: s64 :: s65 :: s66 :: s67 :: s68 :: s69 :: s70 :: s71 :: s72 :: s73 :: s74 :: s75 :: s76 :: s77 :: s78 :: s79 :: s80 :: s81 :: s82 :: s83 :: s84 :: s85 :: s86 :: s87 :: s88 :: s89 :: s90 :: s91 :: s92 :: s93 :: s94 :: s95 :: s96 :: s97 :: s98 :: s99 :: s100 :: s101 :: s102 :: s103 :: s104 :: s105 :: s106 :: s107 :: s108 :: s109 :: s110 :: s111 :: s112 :: s113 :: s114 :: s115 :: s116 :: s117 :: s118 :: s119 :: s120 :: s121 :: s122 :: s123 :: s124 :: s125 :: s126 :: s127 :: s128 :: s129 :: s130 :: s131 :: s132 :: s133 :: s134 :: s135 :: s136 :: s137 :: s138 :: s139 :: s140 :: s141 :: s142 :: s143 :: s144 :: s145 :: s146 :: s147 :: s148 :: s149 :: s150 :: s151 :: s152 :: s153 :: s154 :: s155 :: s156 :: s157 :: s158 :: s159 :: s160 :: s161 :: s162 :: s163 :: s164 :: s165 :: s166 :: s167 :: s168 :: s169 :: s170 :: s171 :: s172 :: s173 :: s174 :: s175 :: s176 :: s177 :: s178 :: s179 :: s180 :: s181 :: s182 :: s183 :: s184 :: s185 :: s186 :: s187 :: s188 :: s189 :: s190 :: s191 :: s192 :: s193 :: s194 :: s195 :: s196 :: s197 :: s198 :: s199 :: s200 :: s201 :: s202 :: s203 :: s204 :: s205 :: s206 :: s207 :: s208 :: s209 :: s210 :: s211 :: s212 :: s213 :: s214 :: s215 :: s216 :: s217 :: s218 :: s219 :: s220 :: s221 :: s222 :: s223 :: s224 :: []), []⟩ w') :
    Code.wp Try.prog (reg 11 Try.f3) Q0 ⟨List.toArray (s0 :: .slice (some ⟨g, o, none⟩) plen pcap :: s2 :: s3 :: s4 :: s5 :: s6 :: s7 :: .pointer (some ⟨b, 0, none⟩) :: s9 :: .int .i64 n :: s11 :: s12 :: s13 :: s14 :: s15 :: s16 :: s17 :: s18 :: s19 :: s20 :: s21 :: s22 :: s23 :: s24 :: s25 :: s26 :: s27 :: s28 :: s29 :: s30 :: s31 :: s32 :: s33 :: s34 :: s35 :: s36 :: s37 :: s38 :: s39 :: s40 :: s41 :: s42 :: s43 :: s44 :: s45 :: s46 :: s47 :: s48 :: s49 :: s50 :: s51 :: s52 :: s53 :: s54 :: s55 :: s56 :: s57 :: s58 :: s59 :: s60 :: s61 :: s62 :: s63 :: s64 :: s65 :: s66 :: s67 :: s68 :: s69 :: s70 :: s71 :: s72 :: s73 :: s74 :: s75 :: s76 :: s77 :: s78 :: s79 :: s80 :: s81 :: s82 :: s83 :: s84 :: s85 :: s86 :: s87 :: s88 :: s89 :: s90 :: s91 :: s92 :: s93 :: s94 :: s95 :: s96 :: s97 :: s98 :: s99 :: s100 :: s101 :: s102 :: s103 :: s104 :: s105 :: s106 :: s107 :: s108 :: s109 :: s110 :: s111 :: s112 :: s113 :: s114 :: s115 :: s116 :: s117 :: s118 :: s119 :: s120 :: s121 :: s122 :: s123 :: s124 :: s125 :: s126 :: s127 :: s128 :: s129 :: s130 :: s131 :: s132 :: s133 :: s134 :: s135 :: s136 :: s137 :: s138 :: s139 :: s140 :: s141 :: s142 :: s143 :: s144 :: s145 :: s146 :: s147 :: s148 :: s149 :: s150 :: s151 :: s152 :: s153 :: s154 :: s155 :: s156 :: s157 :: s158 :: s159 :: s160 :: s161 :: s162 :: s163 :: s164 :: s165 :: s166 :: s167 :: s168 :: s169 :: s170 :: s171 :: s172 :: s173 :: s174 :: s175 :: s176 :: s177 :: s178 :: s179 :: s180 :: s181 :: s182 :: s183 :: s184 :: s185 :: s186 :: s187 :: s188 :: s189 :: s190 :: s191 :: s192 :: s193 :: s194 :: s195 :: s196 :: s197 :: s198 :: s199 :: s200 :: s201 :: s202 :: s203 :: s204 :: s205 :: s206 :: s207 :: s208 :: s209 :: s210 :: s211 :: s212 :: s213 :: s214 :: s215 :: s216 :: s217 :: s218 :: s219 :: s220 :: s221 :: s222 :: s223 :: s224 :: []), []⟩ w := by
  have HX := Lib.hid hexit
  obtain ⟨hgl, hkx⟩ := hk
  have KX := Lib.hid hkx
  obtain ⟨own1, D1, hS1, hL1, hB1, hbl⟩ := hL
  obtain ⟨cx, cy⟩ := KX.out w hS1.below
  have hn0 : (0 : Int) ≤ (n : Int) := Int.natCast_nonneg _
  have hn1 : (n : Int) < (plen : Int) := by omega
  have hgl' : g < w.drew.heap.size := Nat.lt_of_lt_of_le hgl hS1.below.size
  have S1d : Hid (St w0 w.drew own1 b D1) := Lib.hid (hS1.other (Chg.refl (fun _ => False) w).drew (fun _ f => f.elim))
  have B1d : Hid (Bk w0 w.drew own1 v book) := Lib.hid (hB1.chg (Chg.refl (fun _ => False) w).drew (fun _ _ f => f))
  have HG := Lib.hid hgl'
  have L1 := Lib.hid hL1
  have Hbl := Lib.hid hbl
  obtain ⟨c, D', hD⟩ : ∃ c D', D1.write x.1 (rep 4096 x.2) = (c, D') := ⟨_, _, rfl⟩
  have HD := Lib.hid hD
  clear hexit hkx hS1 hL1 hB1 hbl hgl' hD
  conv => arg 2; whnf
  go_region_held3 (fun w' => w'.cell? ⟨g, o + n * 2, none⟩ = some (.int .i64 x.1) ∧ w'.cell? ⟨g, o + n * 2 + 1, none⟩ = some (.int .u8 x.2.toNat))
    (first
      | exact kx4
      | exact kx5
      | go_keep)
    (first
      | (go_simp; go_at_call 11; refine (full_lit _ x.2 _ rfl).mono ?_; rintro e w4 ⟨rfl, rA, hc4, hlt4⟩; have s4 := S1d.out.other hc4 (fun _ f => f.elim); have kx4 := KX.out w4 s4.below; have S4 := Lib.hid s4; have RA := Lib.hid rA; have B4 := Lib.hid (B1d.out.chg hc4 (fun _ _ f => f)); clear s4 rA hc4)
      | (go_simp; go_at_call 10; refine (write_page S4.out L1.out.ok x.1 (rep_length _ _) RA.out (S1d.out.free (Nat.le_refl _)) (by rw [L1.out.cap]; omega) (by have := L1.out.wr; omega) (by have := L1.out.pn; omega) HD.out).mono ?_; rintro e w5 ⟨rfl, own5, s5, t5⟩; have kx5 := KX.out w5 s5.below; have S5 := Lib.hid s5; have B5 := Lib.hid (B4.out.step t5); clear s5 t5))
  exact HX.out w5 ⟨c, rfl, Lw_of hC S5.out B5.out L1.out Hbl.out HD.out⟩

set_option maxRecDepth 100000 in
set_option maxHeartbeats 4000000 in
theorem dl_may {Q0 : Exit → Act → World → Prop} {s2 s3 s4 s5 s6 s7 s8 s11 s12 s13 s14 s15 s16 s17 s18 s19 s20 s21 s22 s23 s24 s25 s26 s27 s28 s29 s30 s31 s32 s33 s34 s35 s36 s37 s38 s39 s40 s41 s42 s43 s44 s45 s46 s47 s48 s49 s50 s51 s52 s53 s54 s55 s56 s57 s58 s59 s60 s61 s62 s63 s64 s65 s66 s67 s68 s69 s70 s71 s72 s73 s74 s75 s76 s77 s78 s79 s80 s81 s82 s83 s84 s85 s86 s87 s88 s89 s90 s91 s92 s93 s94 s95 s96 s97 s98 s99 s100 s101 s102 s103 s104 s105 s106 s107 s108 s109 s110 s111 s112 s113 s114 s115 s116 s117 s118 s119 s120 s121 s122 s123 s124 s125 s126 s127 s128 s129 s130 s131 s132 s133 s134 s135 s136 s137 s138 s139 s140 s141 s142 s143 s144 s145 s146 s147 s148 s149 s150 s151 s152 s153 s154 s155 s156 s157 s158 s159 s160 s161 s162 s163 s164 s165 s166 s167 s168 s169 s170 s171 s172 s173 s174 s175 s176 s177 s178 s179 s180 s181 s182 s183 s184 s185 s186 s187 s188 s189 s190 s191 s192 s193 s194 s195 s196 s197 s198 s199 s200 s201 s202 s203 s204 s205 s206 s207 s208 s209 s210 s211 s212 s213 s214 s215 s216 s217 s218 s219 s220 s221 s222 s223 s224 : Value} (w : World) (C : Int) (n : Nat) (g o plen pcap : Nat) (x : Int × UInt8) (cx : w.cell? ⟨g, o + n * 2, none⟩ = some (.int .i64 x.1)) (hn : n < plen) (hpl : plen ≤ 9223372036854775807) (h60 : n < 60) (ba : Option Addr) (book : List UInt8) (bcap : Nat) (hbl : book.length ≤ 60)
    (hexit : ∀ ⦃u12 u57 u58 u59 u60 u61 u62 u63 u64 u65 u66 u67 u68 u69 u70 u71 u72 u73 u74 u75 u76 u77 u78 u79 u80 u81 : Value⦄ (w' : World), (∃ mb : Bool, u12 = .bool mb ∧ (mb = true ↔ May C book x) ∧ w' = w) → Q0 .normal ⟨List.toArray (.int .i64 C :: .slice (some ⟨g, o, none⟩) plen pcap :: s2 :: s3 :: s4 :: s5 :: s6 :: s7 :: s8 :: .slice ba book.length bcap :: .int .i64 n :: s11 :: u12 :: s13 :: s14 :: s15 :: s16 :: s17 :: s18 :: s19 :: s20 :: s21 :: s22 :: s23 :: s24 :: s25 :: s26 :: s27 :: s28 :: s29 :: s30 :: s31 :: s32 :: s33 :: s34 :: s35 :: s36 :: s37 :: s38 :: s39 :: s40 :: s41 :: s42 :: s43 :: s44 :: s45 :: s46 :: s47 :: s48 :: s49 :: s50 :: s51 :: s52 :: s53 :: s54 :: s55 :: s56 :: u57 :: u58 :: u59 :: u60 :: u61 :: u62 :: u63 :: u64 :: u65 :: u66 :: u67 :: u68 :: u69 :: u70 :: u71 :: u72 :: u73 :: u74 :: u75 :: u76 :: u77 :: u78 :: u79 :: u80 :: u81 :: s82 :: s83 :: s84 :: s85 :: s86 :: s87 :: s88 :: s89 :: s90 :: s91 :: s92 :: s93 :: s94 :: s95 :: s96 :: s97 :: s98 :: s99 :: s100 :: s101 :: s102 :: s103 :: s104 :: s105 :: s106 :: s107 :: s108 :: s109 :: s110 :: s111 :: s112 :: s113 :: s114 :: s115 :: s116 :: s117 :: s118 :: s119 :: s120 :: s121 :: s122 :: s123 :: s124 :: s125 :: s126 :: s127 :: s128 :: s129 :: s130 :: s131 :: s132 :: s133 :: s134 :: s135 :: s136 :: s137 :: s138 :: s139 :: s140 :: s141 :: s142 :: s143 :: s144 :: s145 :: s146 :: s147 :: s148 :: s149 :: s150 :: s151 :: s152 :: s153 :: s154 :: s155 :: s156 :: s157 :: s158 :: s159 :: s160 :: s161 :: s162 :: s163 :: s164 :: s165 :: s166 :: s167 :: s168 :: s169 :: s170 :: s171 :: s172 :: s173 :: s174 :: s175 :: s176 :: s177 :: s178 :: s179 :: s180 :: s181 :: s182 :: s183 :: s184 :: s185 :: s186 :: s187 :: s188 :: s189 :: s190 :: s191 :: s192 :: s193 :: s194 :: s195 :: s196 :: s197 :: s198 :: s199 :: s200 :: s201 :: s202 :: s203 :: s204 :: s205 :: s206 :: s207 :: s208 :: s209 :: s210 :: s211 :: s212 :: s213 :: s214 :: s215 :: s216 :: s217 :: s218 :: s219 :: s220 :: s221 :: s222 :: s223 :: s224 :: []), []⟩ w') :
    Code.wp Try.prog (reg 12 Try.f3) Q0 ⟨List.toArray (.int .i64 C :: .slice (some ⟨g, o, none⟩) plen pcap :: s2 :: s3 :: s4 :: s5 :: s6 :: s7 :: s8 :: .slice ba book.length bcap :: .int .i64 n :: s11 :: s12 :: s13 :: s14 :: s15 :: s16 :: s17 :: s18 :: s19 :: s20 :: s21 :: s22 :: s23 :: s24 :: s25 :: s26 :: s27 :: s28 :: s29 :: s30 :: s31 :: s32 :: s33 :: s34 :: s35 :: s36 :: s37 :: s38 :: s39 :: s40 :: s41 :: s42 :: s43 :: s44 :: s45 :: s46 :: s47 :: s48 :: s49 :: s50 :: s51 :: s52 :: s53 :: s54 :: s55 :: s56 :: s57 :: s58 :: s59 :: s60 :: s61 :: s62 :: s63 :: s64 :: s65 :: s66 :: s67 :: s68 :: s69 :: s70 :: s71 :: s72 :: s73 :: s74 :: s75 :: s76 :: s77 :: s78 :: s79 :: s80 :: s81 :: s82 :: s83 :: s84 :: s85 :: s86 :: s87 :: s88 :: s89 :: s90 :: s91 :: s92 :: s93 :: s94 :: s95 :: s96 :: s97 :: s98 :: s99 :: s100 :: s101 :: s102 :: s103 :: s104 :: s105 :: s106 :: s107 :: s108 :: s109 :: s110 :: s111 :: s112 :: s113 :: s114 :: s115 :: s116 :: s117 :: s118 :: s119 :: s120 :: s121 :: s122 :: s123 :: s124 :: s125 :: s126 :: s127 :: s128 :: s129 :: s130 :: s131 :: s132 :: s133 :: s134 :: s135 :: s136 :: s137 :: s138 :: s139 :: s140 :: s141 :: s142 :: s143 :: s144 :: s145 :: s146 :: s147 :: s148 :: s149 :: s150 :: s151 :: s152 :: s153 :: s154 :: s155 :: s156 :: s157 :: s158 :: s159 :: s160 :: s161 :: s162 :: s163 :: s164 :: s165 :: s166 :: s167 :: s168 :: s169 :: s170 :: s171 :: s172 :: s173 :: s174 :: s175 :: s176 :: s177 :: s178 :: s179 :: s180 :: s181 :: s182 :: s183 :: s184 :: s185 :: s186 :: s187 :: s188 :: s189 :: s190 :: s191 :: s192 :: s193 :: s194 :: s195 :: s196 :: s197 :: s198 :: s199 :: s200 :: s201 :: s202 :: s203 :: s204 :: s205 :: s206 :: s207 :: s208 :: s209 :: s210 :: s211 :: s212 :: s213 :: s214 :: s215 :: s216 :: s217 :: s218 :: s219 :: s220 :: s221 :: s222 :: s223 :: s224 :: []), []⟩ w := by
  have HX := Lib.hid hexit
  clear hexit
  conv => arg 2; whnf
  by_cases h1 : 0 ≤ x.1
  · by_cases h2 : x.1 ≤ book.length
    · by_cases h3 : x.1 < C
      · have HM : Hid (May C book x) := Lib.hid ⟨h1, h2, h3⟩
        go_wp2_with fail
        exact HX.out w ⟨true, rfl, ⟨fun _ => HM.out, fun _ => rfl⟩, rfl⟩
      · have HM : Hid (false = true ↔ May C book x) := Lib.hid ⟨fun h => (by cases h), fun h => (h3 h.2.2).elim⟩
        go_wp2_with fail
        exact HX.out w ⟨false, rfl, HM.out, rfl⟩
    · have HM : Hid (false = true ↔ May C book x) := Lib.hid ⟨fun h => (by cases h), fun h => (h2 h.2.1).elim⟩
      go_wp2_with fail
      exact HX.out w ⟨false, rfl, HM.out, rfl⟩
  · have HM : Hid (false = true ↔ May C book x) := Lib.hid ⟨fun h => (by cases h), fun h => (h1 h.1).elim⟩
    go_wp2_with fail
    exact HX.out w ⟨false, rfl, HM.out, rfl⟩

set_option maxRecDepth 100000 in
set_option maxHeartbeats 4000000 in
theorem dl_told {Q0 : Exit → Act → World → Prop} {s0 s1 s2 s3 s4 s5 s6 s7 s8 s9 s10 s13 s14 s15 s16 s17 s18 s19 s20 s21 s22 s23 s24 s25 s26 s27 s28 s29 s30 s31 s32 s33 s34 s35 s36 s37 s38 s39 s40 s41 s42 s43 s44 s45 s46 s47 s48 s49 s50 s51 s52 s53 s54 s55 s56 s57 s58 s59 s60 s61 s62 s63 s64 s65 s66 s67 s68 s69 s70 s71 s72 s73 s74 s75 s76 s77 s78 s79 s80 s81 s82 s83 s84 s85 s86 s87 s88 s89 s90 s91 s92 s93 s94 s95 s96 s97 s98 s99 s100 s101 s102 s103 s104 s105 s106 s107 s108 s109 s110 s111 s112 s113 s114 s115 s116 s117 s118 s119 s120 s121 s122 s123 s124 s125 s126 s127 s128 s129 s130 s131 s132 s133 s134 s135 s136 s137 s138 s139 s140 s141 s142 s143 s144 s145 s146 s147 s148 s149 s150 s151 s152 s153 s154 s155 s156 s157 s158 s159 s160 s161 s162 s163 s164 s165 s166 s167 s168 s169 s170 s171 s172 s173 s174 s175 s176 s177 s178 s179 s180 s181 s182 s183 s184 s185 s186 s187 s188 s189 s190 s191 s192 s193 s194 s195 s196 s197 s198 s199 s200 s201 s202 s203 s204 s205 s206 s207 s208 s209 s210 s211 s212 s213 s214 s215 s216 s217 s218 s219 s220 s221 s222 s223 s224 : Value} (w : World) (c : Int) (mb : Bool) (hiff : c = 0 ↔ mb = true)
    (hexit : ∀ ⦃u82 u83 u84 u85 u86 : Value⦄ (w' : World), (u86 = .bool false ∧ w' = w) → Q0 .normal ⟨List.toArray (s0 :: s1 :: s2 :: s3 :: s4 :: s5 :: s6 :: s7 :: s8 :: s9 :: s10 :: .int .i64 c :: .bool mb :: s13 :: s14 :: s15 :: s16 :: s17 :: s18 :: s19 :: s20 :: s21 :: s22 :: s23 :: s24 :: s25 :: s26 :: s27 :: s28 :: s29 :: s30 :: s31 :: s32 :: s33 :: s34 :: s35 :: s36 :: s37 :: s38 :: s39 :: s40 :: s41 :: s42 :: s43 :: s44 :: s45 :: s46 :: s47 :: s48 :: s49 :: s50 :: s51 :: s52 :: s53 :: s54 :: s55 :: s56 :: s57 :: s58 :: s59 :: s60 :: s61 :: s62 :: s63 :: s64 :: s65 :: s66 :: s67 :: s68 :: s69 :: s70 :: s71 :: s72 :: s73 :: s74 :: s75 :: s76 :: s77 :: s78 :: s79 :: s80 :: s81 :: u82 :: u83 :: u84 :: u85 :: u86 :: s87 :: s88 :: s89 :: s90 :: s91 :: s92 :: s93 :: s94 :: s95 :: s96 :: s97 :: s98 :: s99 :: s100 :: s101 :: s102 :: s103 :: s104 :: s105 :: s106 :: s107 :: s108 :: s109 :: s110 :: s111 :: s112 :: s113 :: s114 :: s115 :: s116 :: s117 :: s118 :: s119 :: s120 :: s121 :: s122 :: s123 :: s124 :: s125 :: s126 :: s127 :: s128 :: s129 :: s130 :: s131 :: s132 :: s133 :: s134 :: s135 :: s136 :: s137 :: s138 :: s139 :: s140 :: s141 :: s142 :: s143 :: s144 :: s145 :: s146 :: s147 :: s148 :: s149 :: s150 :: s151 :: s152 :: s153 :: s154 :: s155 :: s156 :: s157 :: s158 :: s159 :: s160 :: s161 :: s162 :: s163 :: s164 :: s165 :: s166 :: s167 :: s168 :: s169 :: s170 :: s171 :: s172 :: s173 :: s174 :: s175 :: s176 :: s177 :: s178 :: s179 :: s180 :: s181 :: s182 :: s183 :: s184 :: s185 :: s186 :: s187 :: s188 :: s189 :: s190 :: s191 :: s192 :: s193 :: s194 :: s195 :: s196 :: s197 :: s198 :: s199 :: s200 :: s201 :: s202 :: s203 :: s204 :: s205 :: s206 :: s207 :: s208 :: s209 :: s210 :: s211 :: s212 :: s213 :: s214 :: s215 :: s216 :: s217 :: s218 :: s219 :: s220 :: s221 :: s222 :: s223 :: s224 :: []), []⟩ w') :
    Code.wp Try.prog (reg 13 Try.f3) Q0 ⟨List.toArray (s0 :: s1 :: s2 :: s3 :: s4 :: s5 :: s6 :: s7 :: s8 :: s9 :: s10 :: .int .i64 c :: .bool mb :: s13 :: s14 :: s15 :: s16 :: s17 :: s18 :: s19 :: s20 :: s21 :: s22 :: s23 :: s24 :: s25 :: s26 :: s27 :: s28 :: s29 :: s30 :: s31 :: s32 :: s33 :: s34 :: s35 :: s36 :: s37 :: s38 :: s39 :: s40 :: s41 :: s42 :: s43 :: s44 :: s45 :: s46 :: s47 :: s48 :: s49 :: s50 :: s51 :: s52 :: s53 :: s54 :: s55 :: s56 :: s57 :: s58 :: s59 :: s60 :: s61 :: s62 :: s63 :: s64 :: s65 :: s66 :: s67 :: s68 :: s69 :: s70 :: s71 :: s72 :: s73 :: s74 :: s75 :: s76 :: s77 :: s78 :: s79 :: s80 :: s81 :: s82 :: s83 :: s84 :: s85 :: s86 :: s87 :: s88 :: s89 :: s90 :: s91 :: s92 :: s93 :: s94 :: s95 :: s96 :: s97 :: s98 :: s99 :: s100 :: s101 :: s102 :: s103 :: s104 :: s105 :: s106 :: s107 :: s108 :: s109 :: s110 :: s111 :: s112 :: s113 :: s114 :: s115 :: s116 :: s117 :: s118 :: s119 :: s120 :: s121 :: s122 :: s123 :: s124 :: s125 :: s126 :: s127 :: s128 :: s129 :: s130 :: s131 :: s132 :: s133 :: s134 :: s135 :: s136 :: s137 :: s138 :: s139 :: s140 :: s141 :: s142 :: s143 :: s144 :: s145 :: s146 :: s147 :: s148 :: s149 :: s150 :: s151 :: s152 :: s153 :: s154 :: s155 :: s156 :: s157 :: s158 :: s159 :: s160 :: s161 :: s162 :: s163 :: s164 :: s165 :: s166 :: s167 :: s168 :: s169 :: s170 :: s171 :: s172 :: s173 :: s174 :: s175 :: s176 :: s177 :: s178 :: s179 :: s180 :: s181 :: s182 :: s183 :: s184 :: s185 :: s186 :: s187 :: s188 :: s189 :: s190 :: s191 :: s192 :: s193 :: s194 :: s195 :: s196 :: s197 :: s198 :: s199 :: s200 :: s201 :: s202 :: s203 :: s204 :: s205 :: s206 :: s207 :: s208 :: s209 :: s210 :: s211 :: s212 :: s213 :: s214 :: s215 :: s216 :: s217 :: s218 :: s219 :: s220 :: s221 :: s222 :: s223 :: s224 :: []), []⟩ w := by
  have HX := Lib.hid hexit
  clear hexit
  conv => arg 2; whnf
  cases mb with
  | true =>
    obtain rfl : c = 0 := hiff.2 rfl
    clear hiff
    go_wp2_with (go_at_call 12; refine (num_any _ _).mono ?_; rintro e w' ⟨rfl, rfl⟩)
    exact HX.out _ ⟨rfl, rfl⟩
  | false =>
    have hc0 : (c == 0) = false := by rw [beq_eq_false_iff_ne]; exact fun e => by have := hiff.1 e; cases this
    have HC0 := Lib.hid hc0
    clear hiff hc0
    go_wp2_with (go_at_call 12; refine (num_any _ _).mono ?_; rintro e w' ⟨rfl, rfl⟩)
    exact HX.out _ ⟨by rw [HC0.out], rfl⟩

set_option maxRecDepth 100000 in
set_option maxHeartbeats 4000000 in
theorem dl_new {Q0 : Exit → Act → World → Prop} {s0 s2 s3 s4 s5 s6 s7 s8 s11 s13 s14 s15 s16 s17 s18 s19 s20 s21 s22 s23 s24 s25 s26 s27 s28 s29 s30 s31 s32 s33 s34 s35 s36 s37 s38 s39 s40 s41 s42 s43 s44 s45 s46 s47 s48 s49 s50 s51 s52 s53 s54 s55 s56 s57 s58 s59 s60 s61 s62 s63 s64 s65 s66 s67 s68 s69 s70 s71 s72 s73 s74 s75 s76 s77 s78 s79 s80 s81 s82 s83 s84 s85 s86 s87 s88 s89 s90 s91 s92 s93 s94 s95 s96 s97 s98 s99 s100 s101 s102 s103 s104 s105 s106 s107 s108 s109 s110 s111 s112 s113 s114 s115 s116 s117 s118 s119 s120 s121 s122 s123 s124 s125 s126 s127 s128 s129 s130 s131 s132 s133 s134 s135 s136 s137 s138 s139 s140 s141 s142 s143 s144 s145 s146 s147 s148 s149 s150 s151 s152 s153 s154 s155 s156 s157 s158 s159 s160 s161 s162 s163 s164 s165 s166 s167 s168 s169 s170 s171 s172 s173 s174 s175 s176 s177 s178 s179 s180 s181 s182 s183 s184 s185 s186 s187 s188 s189 s190 s191 s192 s193 s194 s195 s196 s197 s198 s199 s200 s201 s202 s203 s204 s205 s206 s207 s208 s209 s210 s211 s212 s213 s214 s215 s216 s217 s218 s219 s220 s221 s222 s223 s224 : Value} (w : World) (n : Nat) (g o plen pcap : Nat) (x : Int × UInt8) (cx : w.cell? ⟨g, o + n * 2, none⟩ = some (.int .i64 x.1)) (hn : n < plen) (hpl : plen ≤ 9223372036854775807) (h60 : n < 60) (ba : Option Addr) (book : List UInt8) (bcap : Nat) (hbl : book.length ≤ 60) (mb : Bool)
    (hexit : ∀ ⦃u87 u88 u89 u90 u91 u92 u93 u94 u95 u96 u97 : Value⦄ (w' : World), (∃ sb : Bool, u97 = .bool sb ∧ (sb = true ↔ mb = true ∧ x.1 = book.length) ∧ w' = w) → Q0 .normal ⟨List.toArray (s0 :: .slice (some ⟨g, o, none⟩) plen pcap :: s2 :: s3 :: s4 :: s5 :: s6 :: s7 :: s8 :: .slice ba book.length bcap :: .int .i64 n :: s11 :: .bool mb :: s13 :: s14 :: s15 :: s16 :: s17 :: s18 :: s19 :: s20 :: s21 :: s22 :: s23 :: s24 :: s25 :: s26 :: s27 :: s28 :: s29 :: s30 :: s31 :: s32 :: s33 :: s34 :: s35 :: s36 :: s37 :: s38 :: s39 :: s40 :: s41 :: s42 :: s43 :: s44 :: s45 :: s46 :: s47 :: s48 :: s49 :: s50 :: s51 :: s52 :: s53 :: s54 :: s55 :: s56 :: s57 :: s58 :: s59 :: s60 :: s61 :: s62 :: s63 :: s64 :: s65 :: s66 :: s67 :: s68 :: s69 :: s70 :: s71 :: s72 :: s73 :: s74 :: s75 :: s76 :: s77 :: s78 :: s79 :: s80 :: s81 :: s82 :: s83 :: s84 :: s85 :: s86 :: u87 :: u88 :: u89 :: u90 :: u91 :: u92 :: u93 :: u94 :: u95 :: u96 :: u97 :: s98 :: s99 :: s100 :: s101 :: s102 :: s103 :: s104 :: s105 :: s106 :: s107 :: s108 :: s109 :: s110 :: s111 :: s112 :: s113 :: s114 :: s115 :: s116 :: s117 :: s118 :: s119 :: s120 :: s121 :: s122 :: s123 :: s124 :: s125 :: s126 :: s127 :: s128 :: s129 :: s130 :: s131 :: s132 :: s133 :: s134 :: s135 :: s136 :: s137 :: s138 :: s139 :: s140 :: s141 :: s142 :: s143 :: s144 :: s145 :: s146 :: s147 :: s148 :: s149 :: s150 :: s151 :: s152 :: s153 :: s154 :: s155 :: s156 :: s157 :: s158 :: s159 :: s160 :: s161 :: s162 :: s163 :: s164 :: s165 :: s166 :: s167 :: s168 :: s169 :: s170 :: s171 :: s172 :: s173 :: s174 :: s175 :: s176 :: s177 :: s178 :: s179 :: s180 :: s181 :: s182 :: s183 :: s184 :: s185 :: s186 :: s187 :: s188 :: s189 :: s190 :: s191 :: s192 :: s193 :: s194 :: s195 :: s196 :: s197 :: s198 :: s199 :: s200 :: s201 :: s202 :: s203 :: s204 :: s205 :: s206 :: s207 :: s208 :: s209 :: s210 :: s211 :: s212 :: s213 :: s214 :: s215 :: s216 :: s217 :: s218 :: s219 :: s220 :: s221 :: s222 :: s223 :: s224 :: []), []⟩ w') :
    Code.wp Try.prog (reg 15 Try.f3) Q0 ⟨List.toArray (s0 :: .slice (some ⟨g, o, none⟩) plen pcap :: s2 :: s3 :: s4 :: s5 :: s6 :: s7 :: s8 :: .slice ba book.length bcap :: .int .i64 n :: s11 :: .bool mb :: s13 :: s14 :: s15 :: s16 :: s17 :: s18 :: s19 :: s20 :: s21 :: s22 :: s23 :: s24 :: s25 :: s26 :: s27 :: s28 :: s29 :: s30 :: s31 :: s32 :: s33 :: s34 :: s35 :: s36 :: s37 :: s38 :: s39 :: s40 :: s41 :: s42 :: s43 :: s44 :: s45 :: s46 :: s47 :: s48 :: s49 :: s50 :: s51 :: s52 :: s53 :: s54 :: s55 :: s56 :: s57 :: s58 :: s59 :: s60 :: s61 :: s62 :: s63 :: s64 :: s65 :: s66 :: s67 :: s68 :: s69 :: s70 :: s71 :: s72 :: s73 :: s74 :: s75 :: s76 :: s77 :: s78 :: s79 :: s80 :: s81 :: s82 :: s83 :: s84 :: s85 :: s86 :: s87 :: s88 :: s89 :: s90 :: s91 :: s92 :: s93 :: s94 :: s95 :: s96 :: s97 :: s98 :: s99 :: s100 :: s101 :: s102 :: s103 :: s104 :: s105 :: s106 :: s107 :: s108 :: s109 :: s110 :: s111 :: s112 :: s113 :: s114 :: s115 :: s116 :: s117 :: s118 :: s119 :: s120 :: s121 :: s122 :: s123 :: s124 :: s125 :: s126 :: s127 :: s128 :: s129 :: s130 :: s131 :: s132 :: s133 :: s134 :: s135 :: s136 :: s137 :: s138 :: s139 :: s140 :: s141 :: s142 :: s143 :: s144 :: s145 :: s146 :: s147 :: s148 :: s149 :: s150 :: s151 :: s152 :: s153 :: s154 :: s155 :: s156 :: s157 :: s158 :: s159 :: s160 :: s161 :: s162 :: s163 :: s164 :: s165 :: s166 :: s167 :: s168 :: s169 :: s170 :: s171 :: s172 :: s173 :: s174 :: s175 :: s176 :: s177 :: s178 :: s179 :: s180 :: s181 :: s182 :: s183 :: s184 :: s185 :: s186 :: s187 :: s188 :: s189 :: s190 :: s191 :: s192 :: s193 :: s194 :: s195 :: s196 :: s197 :: s198 :: s199 :: s200 :: s201 :: s202 :: s203 :: s204 :: s205 :: s206 :: s207 :: s208 :: s209 :: s210 :: s211 :: s212 :: s213 :: s214 :: s215 :: s216 :: s217 :: s218 :: s219 :: s220 :: s221 :: s222 :: s223 :: s224 :: []), []⟩ w := by
  have HX := Lib.hid hexit
  clear hexit
  conv => arg 2; whnf
  cases mb with
  | true =>
    by_cases hq : x.1 = book.length
    · have HM : Hid (x.1 = book.length) := Lib.hid hq
      have hq2 : (x.1 == (book.length : Int)) = true := by rw [beq_iff_eq]; exact hq
      have HQ := Lib.hid hq2
      clear hq hq2
      go_wp2_with fail
      exact HX.out _ ⟨true, by rw [HQ.out], ⟨fun _ => ⟨by first | rfl | trivial, HM.out⟩, fun _ => rfl⟩, rfl⟩
    · have HM : Hid (¬ x.1 = book.length) := Lib.hid hq
      have hq2 : (x.1 == (book.length : Int)) = false := by rw [beq_eq_false_iff_ne]; exact hq
      have HQ := Lib.hid hq2
      clear hq hq2
      go_wp2_with fail
      exact HX.out _ ⟨false, by rw [HQ.out], ⟨fun h => (by cases h), fun h => (HM.out h.2).elim⟩, rfl⟩
  | false =>
    go_wp2_with fail
    exact HX.out _ ⟨false, rfl, ⟨fun h => (by cases h), fun h => (by cases h.1)⟩, rfl⟩

set_option maxRecDepth 100000 in
set_option maxHeartbeats 4000000 in
theorem dl_book {Q0 : Exit → Act → World → Prop} {s0 s2 s3 s4 s5 s6 s7 s8 s11 s13 s14 s15 s16 s17 s18 s19 s20 s21 s22 s23 s24 s25 s26 s27 s28 s29 s30 s31 s32 s33 s34 s35 s36 s37 s38 s39 s40 s41 s42 s43 s44 s45 s46 s47 s48 s49 s50 s51 s52 s53 s54 s55 s56 s57 s58 s59 s60 s61 s62 s63 s64 s65 s66 s67 s68 s69 s70 s71 s72 s73 s74 s75 s76 s77 s78 s79 s80 s81 s82 s83 s84 s85 s86 s87 s88 s89 s90 s91 s92 s93 s94 s95 s96 s98 s99 s100 s101 s102 s103 s104 s105 s106 s107 s108 s109 s110 s111 s112 s113 s114 s115 s116 s117 s118 s119 s120 s121 s122 s123 s124 s125 s126 s127 s128 s129 s130 s131 s132 s133 s134 s135 s136 s137 s138 s139 s140 s141 s142 s143 s144 s145 s146 s147 s148 s149 s150 s151 s152 s153 s154 s155 s156 s157 s158 s159 s160 s161 s162 s163 s164 s165 s166 s167 s168 s169 s170 s171 s172 s173 s174 s175 s176 s177 s178 s179 s180 s181 s182 s183 s184 s185 s186 s187 s188 s189 s190 s191 s192 s193 s194 s195 s196 s197 s198 s199 s200 s201 s202 s203 s204 s205 s206 s207 s208 s209 s210 s211 s212 s213 s214 s215 s216 s217 s218 s219 s220 s221 s222 s223 s224 : Value} (w0 w : World) (b : Nat) (C : Int) (n : Nat) (g o plen pcap : Nat) (x : Int × UInt8) (cx3 : w.cell? ⟨g, o + n * 2, none⟩ = some (.int .i64 x.1)) (cy3 : w.cell? ⟨g, o + n * 2 + 1, none⟩ = some (.int .u8 x.2.toNat)) (hn : n < plen) (hpl : plen ≤ 9223372036854775807) (h60 : n < 60) (ba : Option Addr) (book : List UInt8) (bcap : Nat) (c : Int) (hLw : Lw w0 w b C n (.slice ba book.length bcap) book x c) (mb sb : Bool) (hmb : mb = true ↔ May C book x) (hsb : sb = true ↔ mb = true ∧ x.1 = book.length)
    (hexit : ∀ ⦃u9 u98 u99 u100 u101 u102 u103 u104 u105 u106 u107 u108 u109 u110 u111 u112 u113 u114 u115 u116 u117 u118 : Value⦄ (w' : World), (Lx w0 w' b C (n + 1) u9 (bookW C book x)) → Q0 .normal ⟨List.toArray (s0 :: .slice (some ⟨g, o, none⟩) plen pcap :: s2 :: s3 :: s4 :: s5 :: s6 :: s7 :: s8 :: u9 :: .int .i64 n :: s11 :: .bool mb :: s13 :: s14 :: s15 :: s16 :: s17 :: s18 :: s19 :: s20 :: s21 :: s22 :: s23 :: s24 :: s25 :: s26 :: s27 :: s28 :: s29 :: s30 :: s31 :: s32 :: s33 :: s34 :: s35 :: s36 :: s37 :: s38 :: s39 :: s40 :: s41 :: s42 :: s43 :: s44 :: s45 :: s46 :: s47 :: s48 :: s49 :: s50 :: s51 :: s52 :: s53 :: s54 :: s55 :: s56 :: s57 :: s58 :: s59 :: s60 :: s61 :: s62 :: s63 :: s64 :: s65 :: s66 :: s67 :: s68 :: s69 :: s70 :: s71 :: s72 :: s73 :: s74 :: s75 :: s76 :: s77 :: s78 :: s79 :: s80 :: s81 :: s82 :: s83 :: s84 :: s85 :: s86 :: s87 :: s88 :: s89 :: s90 :: s91 :: s92 :: s93 :: s94 :: s95 :: s96 :: .bool sb :: u98 :: u99 :: u100 :: u101 :: u102 :: u103 :: u104 :: u105 :: u106 :: u107 :: u108 :: u109 :: u110 :: u111 :: u112 :: u113 :: u114 :: u115 :: u116 :: u117 :: u118 :: s119 :: s120 :: s121 :: s122 :: s123 :: s124 :: s125 :: s126 :: s127 :: s128 :: s129 :: s130 :: s131 :: s132 :: s133 :: s134 :: s135 :: s136 :: s137 :: s138 :: s139 :: s140 :: s141 :: s142 :: s143 :: s144 :: s145 :: s146 :: s147 :: s148 :: s149 :: s150 :: s151 :: s152 :: s153 :: s154 :: s155 :: s156 :: s157 :: s158 :: s159 :: s160 :: s161 :: s162 :: s163 :: s164 :: s165 :: s166 :: s167 :: s168 :: s169 :: s170 :: s171 :: s172 :: s173 :: s174 :: s175 :: s176 :: s177 :: s178 :: s179 :: s180 :: s181 :: s182 :: s183 :: s184 :: s185 :: s186 :: s187 :: s188 :: s189 :: s190 :: s191 :: s192 :: s193 :: s194 :: s195 :: s196 :: s197 :: s198 :: s199 :: s200 :: s201 :: s202 :: s203 :: s204 :: s205 :: s206 :: s207 :: s208 :: s209 :: s210 :: s211 :: s212 :: s213 :: s214 :: s215 :: s216 :: s217 :: s218 :: s219 :: s220 :: s221 :: s222 :: s223 :: s224 :: []), []⟩ w') :
    Code.wp Try.prog (cnd 97 Try.f3) Q0 ⟨List.toArray (s0 :: .slice (some ⟨g, o, none⟩) plen pcap :: s2 :: s3 :: s4 :: s5 :: s6 :: s7 :: s8 :: .slice ba book.length bcap :: .int .i64 n :: s11 :: .bool mb :: s13 :: s14 :: s15 :: s16 :: s17 :: s18 :: s19 :: s20 :: s21 :: s22 :: s23 :: s24 :: s25 :: s26 :: s27 :: s28 :: s29 :: s30 :: s31 :: s32 :: s33 :: s34 :: s35 :: s36 :: s37 :: s38 :: s39 :: s40 :: s41 :: s42 :: s43 :: s44 :: s45 :: s46 :: s47 :: s48 :: s49 :: s50 :: s51 :: s52 :: s53 :: s54 :: s55 :: s56 :: s57 :: s58 :: s59 :: s60 :: s61 :: s62 :: s63 :: s64 :: s65 :: s66 :: s67 :: s68 :: s69 :: s70 :: s71 :: s72 :: s73 :: s74 :: s75 :: s76 :: s77 :: s78 :: s79 :: s80 :: s81 :: s82 :: s83 :: s84 :: s85 :: s86 :: s87 :: s88 :: s89 :: s90 :: s91 :: s92 :: s93 :: s94 :: s95 :: s96 :: .bool sb :: s98 :: s99 :: s100 :: s101 :: s102 :: s103 :: s104 :: s105 :: s106 :: s107 :: s108 :: s109 :: s110 :: s111 :: s112 :: s113 :: s114 :: s115 :: s116 :: s117 :: s118 :: s119 :: s120 :: s121 :: s122 :: s123 :: s124 :: s125 :: s126 :: s127 :: s128 :: s129 :: s130 :: s131 :: s132 :: s133 :: s134 :: s135 :: s136 :: s137 :: s138 :: s139 :: s140 :: s141 :: s142 :: s143 :: s144 :: s145 :: s146 :: s147 :: s148 :: s149 :: s150 :: s151 :: s152 :: s153 :: s154 :: s155 :: s156 :: s157 :: s158 :: s159 :: s160 :: s161 :: s162 :: s163 :: s164 :: s165 :: s166 :: s167 :: s168 :: s169 :: s170 :: s171 :: s172 :: s173 :: s174 :: s175 :: s176 :: s177 :: s178 :: s179 :: s180 :: s181 :: s182 :: s183 :: s184 :: s185 :: s186 :: s187 :: s188 :: s189 :: s190 :: s191 :: s192 :: s193 :: s194 :: s195 :: s196 :: s197 :: s198 :: s199 :: s200 :: s201 :: s202 :: s203 :: s204 :: s205 :: s206 :: s207 :: s208 :: s209 :: s210 :: s211 :: s212 :: s213 :: s214 :: s215 :: s216 :: s217 :: s218 :: s219 :: s220 :: s221 :: s222 :: s223 :: s224 :: []), []⟩ w := by
  have HX := Lib.hid hexit
  have HMB := Lib.hid hmb
  have HSB := Lib.hid hsb
  obtain ⟨own4, D4, hS4, hB4, _, hL4, hbl⟩ := hLw
  have hn0 : (0 : Int) ≤ (n : Int) := Int.natCast_nonneg _
  have hn1 : (n : Int) < (plen : Int) := by omega
  have S4 := Lib.hid hS4
  have L4 := Lib.hid hL4
  obtain ⟨_, hrow4, hbg4⟩ := hB4
  have R4 := Lib.hid hrow4
  have G4 := Lib.hid hbg4
  clear hexit hmb hsb hS4 hL4 hrow4 hbg4
  conv => arg 2; whnf
  cases sb with
  | true =>
    obtain ⟨hm, hq⟩ := HSB.out.1 rfl
    have hM := HMB.out.1 hm
    have HE : Hid (bookW C book x = book ++ [x.2]) := Lib.hid (by unfold bookW; rw [if_pos hM, if_pos (by omega)])
    subst hm
    obtain ⟨i0, hi, hz0, hz1, hz2⟩ := info_parts info5
    have Hq := Lib.hid hq
    clear hM hq
    go_wp2_with (at_builtin; refine wpList_append_lies _ rfl _ _ _ rfl 0 5 i0 (.int .u8 0) 1 1 Try.underlying27 hi hz0 hz1 hz2 rfl (by omega) (.slice ba book.length bcap) book.length (bVs book) (by rfl) (R4.out.alloc _) ⟨w.heap.size, 0, none⟩ 1 1 [.int .u8 x.2.toNat] (by rfl) (by rfl) (World.news_of_block (cs := #[.int .u8 x.2.toNat]) (t := 5) (fr := (0, 0)) (heap_alloc_new w _)) (by simp [Value.oneCell']) (by omega) (by unfold maxLen; omega) (by omega) (Nat.zero_le _) (w.heap.size + 1) (by simp) ?_; intro gg cap' w5 hown5 hgrow5 hat5 hlt5)
    have hc5 : Chg (fun k => (Value.slice ba book.length bcap).ownBlock = some k) w w5 := ((Chg.refl _ w).alloc _).grown hgrow5 (fun k hk => Or.inl hk)
    have hsz := S4.out.below.size
    refine HX.out w5 ⟨own4, D4, S4.out.other hc5 (fun k hk => ⟨(G4.out k hk).2, (G4.out k hk).1⟩), L4.out, ?_, ?_⟩
    · rw [HE.out]
      refine ⟨⟨_, _, by rw [List.length_append]; rfl⟩, by rw [List.length_append, bVs_snoc]; exact hown5, fun k hk => ?_⟩
      obtain rfl : gg = k := by simpa [Value.ownBlock] using hk
      rcases hat5 with e | e
      · exact G4.out _ e
      · exact ⟨by omega, S4.out.free (by omega)⟩
    · rw [HE.out, List.length_append]; show _ + 1 ≤ _; omega
  | false =>
    cases mb with
    | false =>
      have HE : Hid (bookW C book x = book) := Lib.hid (by unfold bookW; rw [if_neg (fun h => by have := HMB.out.2 h; cases this)])
      go_wp2_with fail
      refine HX.out _ ⟨own4, D4, S4.out, L4.out, ?_, ?_⟩
      · rw [HE.out]; exact ⟨⟨_, _, rfl⟩, R4.out, G4.out⟩
      · rw [HE.out]; omega
    | true =>
      have hM := HMB.out.1 rfl
      have hne : ¬ x.1 = book.length := fun e => by have := HSB.out.2 ⟨rfl, e⟩; cases this
      have HE : Hid (bookW C book x = book.set x.1.toNat x.2) := Lib.hid (by unfold bookW; rw [if_pos hM, if_neg (by have := hM.1; omega)])
      obtain ⟨k, hk⟩ : ∃ k : Nat, x.1 = k := ⟨x.1.toNat, by have := hM.1; omega⟩
      have hkl : k < book.length := by have := hM.2.1; omega
      have hxk : x.1.toNat = k := by omega
      rw [hxk] at HE
      rw [hk] at cx3
      obtain ⟨_, _, hsl, _, _, hpos⟩ := ownsRow_slice R4.out
      cases hsl
      obtain ⟨bg, rfl⟩ := hpos (by omega)
      have hcell := R4.out.cellAt k (by omega)
      have hbl4 : (bVs book).length = book.length := bVs_length book
      obtain ⟨u0, hcell2⟩ : ∃ u, w.drew.cell? ⟨bg, k, none⟩ = some u := ⟨_, by rw [show w.drew.cell? ⟨bg, k, none⟩ = w.cell? ⟨bg, k, none⟩ from rfl, hcell]; exact List.getElem?_eq_getElem (by omega)⟩
      have hfz : w.drew.frozen? ⟨bg, k, none⟩ = false := R4.out.frozenAt k
      have cxd : w.drew.cell? ⟨g, o + n * 2, none⟩ = some (.int .i64 k) := cx3
      have cyd : w.drew.cell? ⟨g, o + n * 2 + 1, none⟩ = some (.int .u8 x.2.toNat) := cy3
      clear hM hne hcell hk hxk cx3 cy3
      go_upto_region 18 with fail
      refine wp_region_noPanic ?_
      go_region_law
        (fail)
      all_goals refine NoPanic.normal ?_
      all_goals
        go_wp2_with fail
        refine HX.out _ ?_
        rw [HE.out]
        exact Lx_set S4.out (by rw [← HE.out]; exact L4.out) R4.out G4.out (by omega) hkl

set_option maxRecDepth 100000 in
set_option maxHeartbeats 4000000 in
theorem dl_ask {Q0 : Exit → Act → World → Prop} {s0 s1 s3 s4 s5 s6 s7 s8 s9 s11 s12 s13 s14 s15 s16 s17 s18 s19 s20 s21 s22 s23 s24 s25 s26 s27 s28 s29 s30 s31 s32 s33 s34 s35 s36 s37 s38 s39 s40 s41 s42 s43 s44 s45 s46 s47 s48 s49 s50 s51 s52 s53 s54 s55 s56 s57 s58 s59 s60 s61 s62 s63 s64 s65 s66 s67 s68 s69 s70 s71 s72 s73 s74 s75 s76 s77 s78 s79 s80 s81 s82 s83 s84 s85 s86 s87 s88 s89 s90 s91 s92 s93 s94 s95 s96 s97 s98 s99 s100 s101 s102 s103 s104 s105 s106 s107 s108 s109 s110 s111 s112 s113 s114 s115 s116 s117 s118 s119 s120 s121 s122 s123 s124 s125 s126 s127 s128 s129 s130 s131 s132 s133 s134 s135 s136 s137 s138 s139 s140 s141 s142 s143 s144 s145 s146 s147 s148 s149 s150 s151 s152 s153 s154 s155 s156 s157 s158 s159 s160 s161 s162 s163 s164 s165 s166 s167 s168 s169 s170 s171 s172 s173 s174 s175 s176 s177 s178 s179 s180 s181 s182 s183 s184 s185 s186 s187 s188 s189 s190 s191 s192 s193 s194 s195 s196 s197 s198 s199 s200 s201 s202 s203 s204 s205 s206 s207 s208 s209 s210 s211 s212 s213 s214 s215 s216 s217 s218 s219 s220 s221 s222 s223 s224 : Value} (w0 w : World) (n : Nat) (sa : Option Addr) (bs : List Bool) (scap : Nat) (hs : BoolsA w0 (.slice sa bs.length scap) bs) (hw : Below w0.heap.size w0 w) (h60 : n < 60)
    (hexit : ∀ ⦃u119 u120 u121 u122 u123 u124 u125 u126 u127 u128 : Value⦄ (w' : World), (∃ sb : Bool, u128 = .bool sb ∧ w' = w) → Q0 .normal ⟨List.toArray (s0 :: s1 :: .slice sa bs.length scap :: s3 :: s4 :: s5 :: s6 :: s7 :: s8 :: s9 :: .int .i64 n :: s11 :: s12 :: s13 :: s14 :: s15 :: s16 :: s17 :: s18 :: s19 :: s20 :: s21 :: s22 :: s23 :: s24 :: s25 :: s26 :: s27 :: s28 :: s29 :: s30 :: s31 :: s32 :: s33 :: s34 :: s35 :: s36 :: s37 :: s38 :: s39 :: s40 :: s41 :: s42 :: s43 :: s44 :: s45 :: s46 :: s47 :: s48 :: s49 :: s50 :: s51 :: s52 :: s53 :: s54 :: s55 :: s56 :: s57 :: s58 :: s59 :: s60 :: s61 :: s62 :: s63 :: s64 :: s65 :: s66 :: s67 :: s68 :: s69 :: s70 :: s71 :: s72 :: s73 :: s74 :: s75 :: s76 :: s77 :: s78 :: s79 :: s80 :: s81 :: s82 :: s83 :: s84 :: s85 :: s86 :: s87 :: s88 :: s89 :: s90 :: s91 :: s92 :: s93 :: s94 :: s95 :: s96 :: s97 :: s98 :: s99 :: s100 :: s101 :: s102 :: s103 :: s104 :: s105 :: s106 :: s107 :: s108 :: s109 :: s110 :: s111 :: s112 :: s113 :: s114 :: s115 :: s116 :: s117 :: s118 :: u119 :: u120 :: u121 :: u122 :: u123 :: u124 :: u125 :: u126 :: u127 :: u128 :: s129 :: s130 :: s131 :: s132 :: s133 :: s134 :: s135 :: s136 :: s137 :: s138 :: s139 :: s140 :: s141 :: s142 :: s143 :: s144 :: s145 :: s146 :: s147 :: s148 :: s149 :: s150 :: s151 :: s152 :: s153 :: s154 :: s155 :: s156 :: s157 :: s158 :: s159 :: s160 :: s161 :: s162 :: s163 :: s164 :: s165 :: s166 :: s167 :: s168 :: s169 :: s170 :: s171 :: s172 :: s173 :: s174 :: s175 :: s176 :: s177 :: s178 :: s179 :: s180 :: s181 :: s182 :: s183 :: s184 :: s185 :: s186 :: s187 :: s188 :: s189 :: s190 :: s191 :: s192 :: s193 :: s194 :: s195 :: s196 :: s197 :: s198 :: s199 :: s200 :: s201 :: s202 :: s203 :: s204 :: s205 :: s206 :: s207 :: s208 :: s209 :: s210 :: s211 :: s212 :: s213 :: s214 :: s215 :: s216 :: s217 :: s218 :: s219 :: s220 :: s221 :: s222 :: s223 :: s224 :: []), []⟩ w') :
    Code.wp Try.prog (reg 19 Try.f3) Q0 ⟨List.toArray (s0 :: s1 :: .slice sa bs.length scap :: s3 :: s4 :: s5 :: s6 :: s7 :: s8 :: s9 :: .int .i64 n :: s11 :: s12 :: s13 :: s14 :: s15 :: s16 :: s17 :: s18 :: s19 :: s20 :: s21 :: s22 :: s23 :: s24 :: s25 :: s26 :: s27 :: s28 :: s29 :: s30 :: s31 :: s32 :: s33 :: s34 :: s35 :: s36 :: s37 :: s38 :: s39 :: s40 :: s41 :: s42 :: s43 :: s44 :: s45 :: s46 :: s47 :: s48 :: s49 :: s50 :: s51 :: s52 :: s53 :: s54 :: s55 :: s56 :: s57 :: s58 :: s59 :: s60 :: s61 :: s62 :: s63 :: s64 :: s65 :: s66 :: s67 :: s68 :: s69 :: s70 :: s71 :: s72 :: s73 :: s74 :: s75 :: s76 :: s77 :: s78 :: s79 :: s80 :: s81 :: s82 :: s83 :: s84 :: s85 :: s86 :: s87 :: s88 :: s89 :: s90 :: s91 :: s92 :: s93 :: s94 :: s95 :: s96 :: s97 :: s98 :: s99 :: s100 :: s101 :: s102 :: s103 :: s104 :: s105 :: s106 :: s107 :: s108 :: s109 :: s110 :: s111 :: s112 :: s113 :: s114 :: s115 :: s116 :: s117 :: s118 :: s119 :: s120 :: s121 :: s122 :: s123 :: s124 :: s125 :: s126 :: s127 :: s128 :: s129 :: s130 :: s131 :: s132 :: s133 :: s134 :: s135 :: s136 :: s137 :: s138 :: s139 :: s140 :: s141 :: s142 :: s143 :: s144 :: s145 :: s146 :: s147 :: s148 :: s149 :: s150 :: s151 :: s152 :: s153 :: s154 :: s155 :: s156 :: s157 :: s158 :: s159 :: s160 :: s161 :: s162 :: s163 :: s164 :: s165 :: s166 :: s167 :: s168 :: s169 :: s170 :: s171 :: s172 :: s173 :: s174 :: s175 :: s176 :: s177 :: s178 :: s179 :: s180 :: s181 :: s182 :: s183 :: s184 :: s185 :: s186 :: s187 :: s188 :: s189 :: s190 :: s191 :: s192 :: s193 :: s194 :: s195 :: s196 :: s197 :: s198 :: s199 :: s200 :: s201 :: s202 :: s203 :: s204 :: s205 :: s206 :: s207 :: s208 :: s209 :: s210 :: s211 :: s212 :: s213 :: s214 :: s215 :: s216 :: s217 :: s218 :: s219 :: s220 :: s221 :: s222 :: s223 :: s224 :: []), []⟩ w := by
  have HX := Lib.hid hexit
  obtain ⟨sa', sc', he, hsl, hsg⟩ := hs
  cases he
  have HS := Lib.hid hsg
  clear hexit hsg
  conv => arg 2; whnf
  by_cases hsn : n < bs.length
  · obtain ⟨sg, so, rfl, hsc⟩ := HS.out (by omega)
    obtain ⟨y, hy⟩ : ∃ y, bs[n]? = some y := ⟨_, List.getElem?_eq_getElem hsn⟩
    have cb0 := hsc n y hy
    have cb : w.cell? ⟨sg, so + n, none⟩ = some (.bool y) := (hw.cell (p := ⟨sg, so + n, none⟩) (World.block_lt_of_cell? _ _ cb0)).trans cb0
    clear hsc hy cb0
    go_wp2_with fail
    exact HX.out _ ⟨y, rfl, rfl⟩
  · go_wp2_with fail
    exact HX.out _ ⟨false, rfl, rfl⟩

set_option maxRecDepth 100000 in
set_option maxHeartbeats 4000000 in
theorem dl_sync {Q0 : Exit → Act → World → Prop} {s0 s1 s2 s3 s4 s5 s6 s7 s10 s11 s12 s13 s14 s15 s16 s17 s18 s19 s20 s21 s22 s23 s24 s25 s26 s27 s28 s29 s30 s31 s32 s33 s34 s35 s36 s37 s38 s39 s40 s41 s42 s43 s44 s45 s46 s47 s48 s49 s50 s51 s52 s53 s54 s55 s56 s57 s58 s59 s60 s61 s62 s63 s64 s65 s66 s67 s68 s69 s70 s71 s72 s73 s74 s75 s76 s77 s78 s79 s80 s81 s82 s83 s84 s85 s86 s87 s88 s89 s90 s91 s92 s93 s94 s95 s96 s97 s98 s99 s100 s101 s102 s103 s104 s105 s106 s107 s108 s109 s110 s111 s112 s113 s114 s115 s116 s117 s118 s119 s120 s121 s122 s123 s124 s125 s126 s127 s129 s130 s131 s132 s133 s134 s135 s136 s137 s138 s139 s140 s141 s142 s143 s144 s145 s146 s147 s148 s149 s150 s151 s152 s153 s154 s155 s156 s157 s158 s159 s160 s161 s162 s163 s164 s165 s166 s167 s168 s169 s170 s171 s172 s173 s174 s175 s176 s177 s178 s179 s180 s181 s182 s183 s184 s185 s186 s187 s188 s189 s190 s191 s192 s193 s194 s195 s196 s197 s198 s199 s200 s201 s202 s203 s204 s205 s206 s207 s208 s209 s210 s211 s212 s213 s214 s215 s216 s217 s218 s219 s220 s221 s222 s223 s224 : Value} (w0 w : World) (b : Nat) (C : Int) (n : Nat) (ba : Option Addr) (bw : List UInt8) (bcap : Nat) (hL : Lx w0 w b C n (.slice ba bw.length bcap) bw) (h61 : n ≤ 61) (sb : Bool)
    (hexit : ∀ ⦃u6 u11 u129 u130 u131 u132 u133 u134 u135 u136 u137 u138 u139 u140 u141 u142 u143 u144 u145 u146 u147 u148 : Value⦄ (w' : World), (Lx w0 w' b C n (.slice ba bw.length bcap) bw) → Q0 .normal ⟨List.toArray (s0 :: s1 :: s2 :: s3 :: s4 :: s5 :: u6 :: s7 :: .pointer (some ⟨b, 0, none⟩) :: .slice ba bw.length bcap :: s10 :: u11 :: s12 :: s13 :: s14 :: s15 :: s16 :: s17 :: s18 :: s19 :: s20 :: s21 :: s22 :: s23 :: s24 :: s25 :: s26 :: s27 :: s28 :: s29 :: s30 :: s31 :: s32 :: s33 :: s34 :: s35 :: s36 :: s37 :: s38 :: s39 :: s40 :: s41 :: s42 :: s43 :: s44 :: s45 :: s46 :: s47 :: s48 :: s49 :: s50 :: s51 :: s52 :: s53 :: s54 :: s55 :: s56 :: s57 :: s58 :: s59 :: s60 :: s61 :: s62 :: s63 :: s64 :: s65 :: s66 :: s67 :: s68 :: s69 :: s70 :: s71 :: s72 :: s73 :: s74 :: s75 :: s76 :: s77 :: s78 :: s79 :: s80 :: s81 :: s82 :: s83 :: s84 :: s85 :: s86 :: s87 :: s88 :: s89 :: s90 :: s91 :: s92 :: s93 :: s94 :: s95 :: s96 :: s97 :: s98 :: s99 :: s100 :: s101 :: s102 :: s103 :: s104 :: s105 :: s106 :: s107 :: s108 :: s109 :: s110 :: s111 :: s112 :: s113 :: s114 :: s115 :: s116 :: s117 :: s118 :: s119 :: s120 :: s121 :: s122 :: s123 :: s124 :: s125 :: s126 :: s127 :: .bool sb :: u129 :: u130 :: u131 :: u132 :: u133 :: u134 :: u135 :: u136 :: u137 :: u138 :: u139 :: u140 :: u141 :: u142 :: u143 :: u144 :: u145 :: u146 :: u147 :: u148 :: s149 :: s150 :: s151 :: s152 :: s153 :: s154 :: s155 :: s156 :: s157 :: s158 :: s159 :: s160 :: s161 :: s162 :: s163 :: s164 :: s165 :: s166 :: s167 :: s168 :: s169 :: s170 :: s171 :: s172 :: s173 :: s174 :: s175 :: s176 :: s177 :: s178 :: s179 :: s180 :: s181 :: s182 :: s183 :: s184 :: s185 :: s186 :: s187 :: s188 :: s189 :: s190 :: s191 :: s192 :: s193 :: s194 :: s195 :: s196 :: s197 :: s198 :: s199 :: s200 :: s201 :: s202 :: s203 :: s204 :: s205 :: s206 :: s207 :: s208 :: s209 :: s210 :: s211 :: s212 :: s213 :: s214 :: s215 :: s216 :: s217 :: s218 :: s219 :: s220 :: s221 :: s222 :: s223 :: s224 :: []), []⟩ w') :
    Code.wp Try.prog (cnd 128 Try.f3) Q0 ⟨List.toArray (s0 :: s1 :: s2 :: s3 :: s4 :: s5 :: s6 :: s7 :: .pointer (some ⟨b, 0, none⟩) :: .slice ba bw.length bcap :: s10 :: s11 :: s12 :: s13 :: s14 :: s15 :: s16 :: s17 :: s18 :: s19 :: s20 :: s21 :: s22 :: s23 :: s24 :: s25 :: s26 :: s27 :: s28 :: s29 :: s30 :: s31 :: s32 :: s33 :: s34 :: s35 :: s36 :: s37 :: s38 :: s39 :: s40 :: s41 :: s42 :: s43 :: s44 :: s45 :: s46 :: s47 :: s48 :: s49 :: s50 :: s51 :: s52 :: s53 :: s54 :: s55 :: s56 :: s57 :: s58 :: s59 :: s60 :: s61 :: s62 :: s63 :: s64 :: s65 :: s66 :: s67 :: s68 :: s69 :: s70 :: s71 :: s72 :: s73 :: s74 :: s75 :: s76 :: s77 :: s78 :: s79 :: s80 :: s81 :: s82 :: s83 :: s84 :: s85 :: s86 :: s87 :: s88 :: s89 :: s90 :: s91 :: s92 :: s93 :: s94 :: s95 :: s96 :: s97 :: s98 :: s99 :: s100 :: s101 :: s102 :: s103 :: s104 :: s105 :: s106 :: s107 :: s108 :: s109 :: s110 :: s111 :: s112 :: s113 :: s114 :: s115 :: s116 :: s117 :: s118 :: s119 :: s120 :: s121 :: s122 :: s123 :: s124 :: s125 :: s126 :: s127 :: .bool sb :: s129 :: s130 :: s131 :: s132 :: s133 :: s134 :: s135 :: s136 :: s137 :: s138 :: s139 :: s140 :: s141 :: s142 :: s143 :: s144 :: s145 :: s146 :: s147 :: s148 :: s149 :: s150 :: s151 :: s152 :: s153 :: s154 :: s155 :: s156 :: s157 :: s158 :: s159 :: s160 :: s161 :: s162 :: s163 :: s164 :: s165 :: s166 :: s167 :: s168 :: s169 :: s170 :: s171 :: s172 :: s173 :: s174 :: s175 :: s176 :: s177 :: s178 :: s179 :: s180 :: s181 :: s182 :: s183 :: s184 :: s185 :: s186 :: s187 :: s188 :: s189 :: s190 :: s191 :: s192 :: s193 :: s194 :: s195 :: s196 :: s197 :: s198 :: s199 :: s200 :: s201 :: s202 :: s203 :: s204 :: s205 :: s206 :: s207 :: s208 :: s209 :: s210 :: s211 :: s212 :: s213 :: s214 :: s215 :: s216 :: s217 :: s218 :: s219 :: s220 :: s221 :: s222 :: s223 :: s224 :: []), []⟩ w := by
  have HX := Lib.hid hexit
  obtain ⟨own5, D5, hS5, hL5, hB5, hbl⟩ := hL
  have S5 := Lib.hid hS5
  have L5 := Lib.hid hL5
  have B5 := Lib.hid hB5
  have hb61 : bw.length ≤ 61 := by omega
  have N5 := Lib.hid hbl
  clear hexit hS5 hL5 hB5 hbl
  conv => arg 2; whnf
  cases sb with
  | false =>
    go_wp2_with fail
    exact HX.out _ ⟨own5, D5, S5.out, L5.out, B5.out, N5.out⟩
  | true =>
    obtain ⟨D6, hD6, hL6, hp6, hl6⟩ := L_sync L5.out
    have HD6 := Lib.hid hD6
    have L6 := Lib.hid hL6
    have P6 : Hid (D6.pending.length = 0) := Lib.hid (by rw [hp6]; rfl)
    obtain ⟨fl, hfl⟩ : ∃ fl, D6.lasting.flatten = fl := ⟨_, rfl⟩
    have FL := Lib.hid hfl
    have hfn : fl.length = bw.length * 4096 := by rw [← hfl, hl6]; exact flat_length bw
    clear hD6 hL6 hp6 hl6 hfl
    go_wp2_with (first
      | (go_at_call 12; refine (num_any _ _).mono ?_; rintro e w' ⟨rfl, rfl⟩)
      | (go_at_call 13; refine (sync_st S5.out L5.out.ok HD6.out).mono ?_; rintro e w6 ⟨rfl, own6, s6, t6⟩; have S6 := Lib.hid s6; have B6 := Lib.hid (B5.out.step t6); clear s6 t6)
      | (go_at_call 14; refine (pendlen_st S6.out L6.out.ok P6.out (by omega)).mono ?_; rintro e w7 ⟨qa, qc, rfl, s7, t7⟩; have S7 := Lib.hid s7; have B7 := Lib.hid (B6.out.step t7); clear s7 t7)
      | (go_at_call 15; refine (durable_st S7.out L6.out.ok FL.out).mono ?_; rintro e w8 ⟨ra, rc, rfl, rh, s8, t8⟩; rw [hfn]; have S8 := Lib.hid s8; have B8 := Lib.hid (B7.out.step t8); clear s8 t8 rh))
    exact HX.out _ ⟨own6, D6, S8.out, L6.out, B8.out, N5.out⟩

end Go.Proofs.Ytckioocahmbhkaa
