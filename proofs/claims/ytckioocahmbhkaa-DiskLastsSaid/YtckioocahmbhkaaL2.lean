/- The law DiskLasts: its loops. -/
import Derived.Test.YtckioocahmbhkaaL1
import Derived.WalkKit
import Derived.Outline
import Derived.Deep.DeepCutAuto
import Derived.Deep.LoopGhost
import Derived.Deep.CutBlock
import Derived.Deep.RegionHeld3
import Derived.Deep.QuietTactic
import Derived.BigQuiet
namespace Go.Proofs.Ytckioocahmbhkaa
open Go Go.RowKit Go.Maps Go.MuLone

set_option maxRecDepth 100000 in
set_option maxHeartbeats 4000000 in
theorem dl_look {Q0 : Exit → Act → World → Prop} {s0 s1 s2 s3 s4 s5 s6 s7 s8 s10 s11 s12 s16 s17 s18 s19 s20 s21 s22 s23 s24 s25 s26 s27 s28 s29 s30 s31 s32 s33 s34 s35 s36 s37 s38 s39 s40 s41 s42 s43 s44 s45 s46 s47 s48 s49 s50 s51 s52 s53 s54 s55 s56 s57 s58 s59 s60 s61 s62 s63 s64 s65 s66 s67 s68 s69 s70 s71 s72 s73 s74 s75 s76 s77 s78 s79 s80 s81 s82 s83 s84 s85 s86 s87 s88 s89 s90 s91 s92 s93 s94 s95 s96 s97 s98 s99 s100 s101 s102 s103 s104 s105 s106 s107 s108 s109 s110 s111 s112 s113 s114 s115 s116 s117 s118 s119 s120 s121 s122 s123 s124 s125 s126 s127 s128 s129 s130 s131 s132 s133 s134 s135 s136 s137 s138 s139 s140 s141 s142 s143 s144 s145 s146 s147 s148 s149 s150 s151 s152 s153 s154 s155 s156 s157 s158 s159 s160 s161 s162 s163 s164 s165 s166 s167 s168 s169 s170 s171 s172 s173 s174 s175 s176 s177 s178 s179 s180 s181 s182 s183 s184 s185 s186 s187 s188 s189 s190 s191 s192 s193 s194 s195 s196 s197 s198 s199 s200 s201 s202 s203 s204 s205 s206 s207 s208 s209 s210 s211 s212 s213 s214 s215 s216 s217 s218 s219 s220 s221 s222 s223 s224 : Value} (w : World) (rg rc : Nat) (y : UInt8) (hr1 : w.ownsRow 0 5 1 (.slice (some ⟨rg, 0, none⟩) 4096 rc) 4096 (bVs (rep 4096 y))) (bg bcap : Nat) (bw : List UInt8) (hr2 : w.ownsRow 0 5 1 (.slice (some ⟨bg, 0, none⟩) bw.length bcap) bw.length (bVs bw)) (j : Nat) (hj : bw[j]? = some y) (hb61 : bw.length ≤ 61)
    (hexit : ∀ ⦃u166 u167 u168 u169 u170 u171 u172 u173 u174 u175 u176 u177 u178 u179 u180 u181 u182 u183 u184 u185 u186 u187 u188 u189 u190 u191 u192 u193 : Value⦄ (w' : World), (u193 = .bool false ∧ ∃ nq, w' = w.drewN nq) → Q0 .normal ⟨List.toArray (s0 :: s1 :: s2 :: s3 :: s4 :: s5 :: s6 :: s7 :: s8 :: .slice (some ⟨bg, 0, none⟩) bw.length bcap :: s10 :: s11 :: s12 :: .int .i64 j :: .slice (some ⟨rg, 0, none⟩) 4096 rc :: .int .i64 0 :: s16 :: s17 :: s18 :: s19 :: s20 :: s21 :: s22 :: s23 :: s24 :: s25 :: s26 :: s27 :: s28 :: s29 :: s30 :: s31 :: s32 :: s33 :: s34 :: s35 :: s36 :: s37 :: s38 :: s39 :: s40 :: s41 :: s42 :: s43 :: s44 :: s45 :: s46 :: s47 :: s48 :: s49 :: s50 :: s51 :: s52 :: s53 :: s54 :: s55 :: s56 :: s57 :: s58 :: s59 :: s60 :: s61 :: s62 :: s63 :: s64 :: s65 :: s66 :: s67 :: s68 :: s69 :: s70 :: s71 :: s72 :: s73 :: s74 :: s75 :: s76 :: s77 :: s78 :: s79 :: s80 :: s81 :: s82 :: s83 :: s84 :: s85 :: s86 :: s87 :: s88 :: s89 :: s90 :: s91 :: s92 :: s93 :: s94 :: s95 :: s96 :: s97 :: s98 :: s99 :: s100 :: s101 :: s102 :: s103 :: s104 :: s105 :: s106 :: s107 :: s108 :: s109 :: s110 :: s111 :: s112 :: s113 :: s114 :: s115 :: s116 :: s117 :: s118 :: s119 :: s120 :: s121 :: s122 :: s123 :: s124 :: s125 :: s126 :: s127 :: s128 :: s129 :: s130 :: s131 :: s132 :: s133 :: s134 :: s135 :: s136 :: s137 :: s138 :: s139 :: s140 :: s141 :: s142 :: s143 :: s144 :: s145 :: s146 :: s147 :: s148 :: s149 :: s150 :: s151 :: s152 :: s153 :: s154 :: s155 :: s156 :: s157 :: s158 :: s159 :: s160 :: s161 :: s162 :: s163 :: s164 :: s165 :: u166 :: u167 :: u168 :: u169 :: u170 :: u171 :: u172 :: u173 :: u174 :: u175 :: u176 :: u177 :: u178 :: u179 :: u180 :: u181 :: u182 :: u183 :: u184 :: u185 :: u186 :: u187 :: u188 :: u189 :: u190 :: u191 :: u192 :: u193 :: s194 :: s195 :: s196 :: s197 :: s198 :: s199 :: s200 :: s201 :: s202 :: s203 :: s204 :: s205 :: s206 :: s207 :: s208 :: s209 :: s210 :: s211 :: s212 :: s213 :: s214 :: s215 :: s216 :: s217 :: s218 :: s219 :: s220 :: s221 :: s222 :: s223 :: s224 :: []), []⟩ w') :
    Code.wp Try.prog (reg 29 Try.f3) Q0 ⟨List.toArray (s0 :: s1 :: s2 :: s3 :: s4 :: s5 :: s6 :: s7 :: s8 :: .slice (some ⟨bg, 0, none⟩) bw.length bcap :: s10 :: s11 :: s12 :: .int .i64 j :: .slice (some ⟨rg, 0, none⟩) 4096 rc :: .int .i64 0 :: s16 :: s17 :: s18 :: s19 :: s20 :: s21 :: s22 :: s23 :: s24 :: s25 :: s26 :: s27 :: s28 :: s29 :: s30 :: s31 :: s32 :: s33 :: s34 :: s35 :: s36 :: s37 :: s38 :: s39 :: s40 :: s41 :: s42 :: s43 :: s44 :: s45 :: s46 :: s47 :: s48 :: s49 :: s50 :: s51 :: s52 :: s53 :: s54 :: s55 :: s56 :: s57 :: s58 :: s59 :: s60 :: s61 :: s62 :: s63 :: s64 :: s65 :: s66 :: s67 :: s68 :: s69 :: s70 :: s71 :: s72 :: s73 :: s74 :: s75 :: s76 :: s77 :: s78 :: s79 :: s80 :: s81 :: s82 :: s83 :: s84 :: s85 :: s86 :: s87 :: s88 :: s89 :: s90 :: s91 :: s92 :: s93 :: s94 :: s95 :: s96 :: s97 :: s98 :: s99 :: s100 :: s101 :: s102 :: s103 :: s104 :: s105 :: s106 :: s107 :: s108 :: s109 :: s110 :: s111 :: s112 :: s113 :: s114 :: s115 :: s116 :: s117 :: s118 :: s119 :: s120 :: s121 :: s122 :: s123 :: s124 :: s125 :: s126 :: s127 :: s128 :: s129 :: s130 :: s131 :: s132 :: s133 :: s134 :: s135 :: s136 :: s137 :: s138 :: s139 :: s140 :: s141 :: s142 :: s143 :: s144 :: s145 :: s146 :: s147 :: s148 :: s149 :: s150 :: s151 :: s152 :: s153 :: s154 :: s155 :: s156 :: s157 :: s158 :: s159 :: s160 :: s161 :: s162 :: s163 :: s164 :: s165 :: s166 :: s167 :: s168 :: s169 :: s170 :: s171 :: s172 :: s173 :: s174 :: s175 :: s176 :: s177 :: s178 :: s179 :: s180 :: s181 :: s182 :: s183 :: s184 :: s185 :: s186 :: s187 :: s188 :: s189 :: s190 :: s191 :: s192 :: s193 :: s194 :: s195 :: s196 :: s197 :: s198 :: s199 :: s200 :: s201 :: s202 :: s203 :: s204 :: s205 :: s206 :: s207 :: s208 :: s209 :: s210 :: s211 :: s212 :: s213 :: s214 :: s215 :: s216 :: s217 :: s218 :: s219 :: s220 :: s221 :: s222 :: s223 :: s224 :: []), []⟩ w := by
  have HX := Lib.hid hexit
  have hjl := (List.getElem?_eq_some_iff.1 hj).1
  have c0 : w.cell? ⟨rg, 0, none⟩ = some (.int .u8 y.toNat) := by
    rw [hr1.cellAt 0 (by omega), bVs_rep]; simp [rep, bV]
  have c1 : w.cell? ⟨rg, 4095, none⟩ = some (.int .u8 y.toNat) := by
    rw [hr1.cellAt 4095 (by omega), bVs_rep]; simp [rep, bV]
  have c2 : w.cell? ⟨bg, j, none⟩ = some (.int .u8 y.toNat) := by
    rw [hr2.cellAt j (by omega)]; simp [bVs, bV, hj]
  have hj0 : (0 : Int) ≤ (j : Int) := Int.natCast_nonneg _
  have hj1 : (j : Int) < (bw.length : Int) := by omega
  clear hexit hr1 hr2 hj
  conv => arg 2; whnf
  go_quiet ((go_at_call 12; exact Calls.quiet_of_same ((num_any _ _).mono fun _ _ ⟨he, hw⟩ => ⟨he, hw.symm⟩)))
  go_wp2_with fail
  exact HX.out _ ⟨rfl, _, rfl⟩

set_option maxRecDepth 100000 in
set_option maxHeartbeats 4000000 in
theorem dl_reads {Q0 : Exit → Act → World → Prop} {s0 s1 s2 s3 s4 s5 s6 s7 s10 s11 s12 s14 s15 s16 s17 s18 s19 s20 s21 s22 s23 s24 s25 s26 s27 s28 s29 s30 s31 s32 s33 s34 s35 s36 s37 s38 s39 s40 s41 s42 s43 s44 s45 s46 s47 s48 s49 s50 s51 s52 s53 s54 s55 s56 s57 s58 s59 s60 s61 s62 s63 s64 s65 s66 s67 s68 s69 s70 s71 s72 s73 s74 s75 s76 s77 s78 s79 s80 s81 s82 s83 s84 s85 s86 s87 s88 s89 s90 s91 s92 s93 s94 s95 s96 s97 s98 s99 s100 s101 s102 s103 s104 s105 s106 s107 s108 s109 s110 s111 s112 s113 s114 s115 s116 s117 s118 s119 s120 s121 s122 s123 s124 s125 s126 s127 s128 s129 s130 s131 s132 s133 s134 s135 s136 s137 s138 s139 s140 s141 s142 s143 s144 s145 s146 s147 s148 s149 s150 s151 s152 s153 s154 s155 s156 s157 s158 s159 s160 s161 s162 s163 s164 s165 s166 s167 s168 s169 s170 s171 s172 s173 s174 s175 s176 s177 s178 s179 s180 s181 s182 s183 s184 s185 s186 s187 s188 s189 s190 s191 s192 s193 s194 s195 s196 s197 s198 s199 s200 s201 s202 s203 s204 s205 s206 s207 s208 s209 s210 s211 s212 s213 s214 s215 s216 s217 s218 s219 s220 s221 s222 s223 s224 : Value} (w0 w : World) (b : Nat) (C : Int) (n : Nat) (ba : Option Addr) (bw : List UInt8) (bcap : Nat) (hL : Lx w0 w b C n (.slice ba bw.length bcap) bw) (h61 : n ≤ 61)
    (hexit : ∀ ⦃u6 u13 u14 u15 u154 u155 u156 u157 u158 u159 u160 u161 u162 u163 u164 u165 u166 u167 u168 u169 u170 u171 u172 u173 u174 u175 u176 u177 u178 u179 u180 u181 u182 u183 u184 u185 u186 u187 u188 u189 u190 u191 u192 u193 : Value⦄ (w' : World), (Lx w0 w' b C n (.slice ba bw.length bcap) bw) → Q0 .normal ⟨List.toArray (s0 :: s1 :: s2 :: s3 :: s4 :: s5 :: u6 :: s7 :: .pointer (some ⟨b, 0, none⟩) :: .slice ba bw.length bcap :: s10 :: s11 :: s12 :: u13 :: u14 :: u15 :: s16 :: s17 :: s18 :: s19 :: s20 :: s21 :: s22 :: s23 :: s24 :: s25 :: s26 :: s27 :: s28 :: s29 :: s30 :: s31 :: s32 :: s33 :: s34 :: s35 :: s36 :: s37 :: s38 :: s39 :: s40 :: s41 :: s42 :: s43 :: s44 :: s45 :: s46 :: s47 :: s48 :: s49 :: s50 :: s51 :: s52 :: s53 :: s54 :: s55 :: s56 :: s57 :: s58 :: s59 :: s60 :: s61 :: s62 :: s63 :: s64 :: s65 :: s66 :: s67 :: s68 :: s69 :: s70 :: s71 :: s72 :: s73 :: s74 :: s75 :: s76 :: s77 :: s78 :: s79 :: s80 :: s81 :: s82 :: s83 :: s84 :: s85 :: s86 :: s87 :: s88 :: s89 :: s90 :: s91 :: s92 :: s93 :: s94 :: s95 :: s96 :: s97 :: s98 :: s99 :: s100 :: s101 :: s102 :: s103 :: s104 :: s105 :: s106 :: s107 :: s108 :: s109 :: s110 :: s111 :: s112 :: s113 :: s114 :: s115 :: s116 :: s117 :: s118 :: s119 :: s120 :: s121 :: s122 :: s123 :: s124 :: s125 :: s126 :: s127 :: s128 :: s129 :: s130 :: s131 :: s132 :: s133 :: s134 :: s135 :: s136 :: s137 :: s138 :: s139 :: s140 :: s141 :: s142 :: s143 :: s144 :: s145 :: s146 :: s147 :: s148 :: s149 :: s150 :: s151 :: s152 :: s153 :: u154 :: u155 :: u156 :: u157 :: u158 :: u159 :: u160 :: u161 :: u162 :: u163 :: u164 :: u165 :: u166 :: u167 :: u168 :: u169 :: u170 :: u171 :: u172 :: u173 :: u174 :: u175 :: u176 :: u177 :: u178 :: u179 :: u180 :: u181 :: u182 :: u183 :: u184 :: u185 :: u186 :: u187 :: u188 :: u189 :: u190 :: u191 :: u192 :: u193 :: s194 :: s195 :: s196 :: s197 :: s198 :: s199 :: s200 :: s201 :: s202 :: s203 :: s204 :: s205 :: s206 :: s207 :: s208 :: s209 :: s210 :: s211 :: s212 :: s213 :: s214 :: s215 :: s216 :: s217 :: s218 :: s219 :: s220 :: s221 :: s222 :: s223 :: s224 :: []), []⟩ w') :
    Code.wp Try.prog (blk 2 Try.f3) Q0 ⟨List.toArray (s0 :: s1 :: s2 :: s3 :: s4 :: s5 :: s6 :: s7 :: .pointer (some ⟨b, 0, none⟩) :: .slice ba bw.length bcap :: s10 :: s11 :: s12 :: .int .i64 0 :: s14 :: s15 :: s16 :: s17 :: s18 :: s19 :: s20 :: s21 :: s22 :: s23 :: s24 :: s25 :: s26 :: s27 :: s28 :: s29 :: s30 :: s31 :: s32 :: s33 :: s34 :: s35 :: s36 :: s37 :: s38 :: s39 :: s40 :: s41 :: s42 :: s43 :: s44 :: s45 :: s46 :: s47 :: s48 :: s49 :: s50 :: s51 :: s52 :: s53 :: s54 :: s55 :: s56 :: s57 :: s58 :: s59 :: s60 :: s61 :: s62 :: s63 :: s64 :: s65 :: s66 :: s67 :: s68 :: s69 :: s70 :: s71 :: s72 :: s73 :: s74 :: s75 :: s76 :: s77 :: s78 :: s79 :: s80 :: s81 :: s82 :: s83 :: s84 :: s85 :: s86 :: s87 :: s88 :: s89 :: s90 :: s91 :: s92 :: s93 :: s94 :: s95 :: s96 :: s97 :: s98 :: s99 :: s100 :: s101 :: s102 :: s103 :: s104 :: s105 :: s106 :: s107 :: s108 :: s109 :: s110 :: s111 :: s112 :: s113 :: s114 :: s115 :: s116 :: s117 :: s118 :: s119 :: s120 :: s121 :: s122 :: s123 :: s124 :: s125 :: s126 :: s127 :: s128 :: s129 :: s130 :: s131 :: s132 :: s133 :: s134 :: s135 :: s136 :: s137 :: s138 :: s139 :: s140 :: s141 :: s142 :: s143 :: s144 :: s145 :: s146 :: s147 :: s148 :: s149 :: s150 :: s151 :: s152 :: s153 :: s154 :: s155 :: s156 :: s157 :: s158 :: s159 :: s160 :: s161 :: s162 :: s163 :: s164 :: s165 :: s166 :: s167 :: s168 :: s169 :: s170 :: s171 :: s172 :: s173 :: s174 :: s175 :: s176 :: s177 :: s178 :: s179 :: s180 :: s181 :: s182 :: s183 :: s184 :: s185 :: s186 :: s187 :: s188 :: s189 :: s190 :: s191 :: s192 :: s193 :: s194 :: s195 :: s196 :: s197 :: s198 :: s199 :: s200 :: s201 :: s202 :: s203 :: s204 :: s205 :: s206 :: s207 :: s208 :: s209 :: s210 :: s211 :: s212 :: s213 :: s214 :: s215 :: s216 :: s217 :: s218 :: s219 :: s220 :: s221 :: s222 :: s223 :: s224 :: []), []⟩ w := by
  have HX := Lib.hid hexit
  have HL := Lib.hid hL
  have hb61 : bw.length ≤ 61 := by obtain ⟨_, _, _, _, _, h⟩ := hL; omega
  clear hexit hL
  conv => arg 2; whnf
  go_wp2_with fail
  go_loopg [13] (bw.length) (fun g jv wr => ∃ j : Nat, j ≤ bw.length ∧ g = bw.length - j ∧ jv = .int .i64 j ∧ Lx w0 wr b C n (.slice ba bw.length bcap) bw)
  case atStart => exact ⟨0, by omega, rfl, rfl, HL.out⟩
  case round =>
    obtain ⟨j, hj, hg2, rfl, own7, D7, hS7, hL7, hB7, hlen7⟩ := hrel
    have Hg2 := Lib.hid hg2
    have S8 := Lib.hid hS7
    have L8 := Lib.hid hL7
    have B8 := Lib.hid hB7
    have N5 := Lib.hid hlen7
    clear hS7 hL7 hB7 hlen7 hg2
    by_cases hjl : j < bw.length
    · obtain ⟨y, hy⟩ : ∃ y, bw[j]? = some y := ⟨_, List.getElem?_eq_getElem hjl⟩
      have HR := Lib.hid (L_read L8.out j (rep 4096 y) (bookP_get hy))
      have HP8 : Hid (D7.pages ≤ 1000000) := Lib.hid (by rw [L8.out.pages, bookP_length]; omega)
      have HY := Lib.hid hy
      clear hy
      go_upto_region 29 with (go_at_call 17; refine (read_st S8.out L8.out.ok HP8.out j HR.out).mono ?_; rintro e w9 ⟨ra, rc, rfl, rh, s9, t9⟩; rw [rep_length]; have S9 := Lib.hid s9; have B9 := Lib.hid (B8.out.step t9); have RH := Lib.hid rh; clear s9 t9 rh)
      obtain ⟨hr1, _⟩ := RH.out
      rw [rep_length] at hr1
      obtain ⟨_, _, hs1, _, _, hp1⟩ := ownsRow_slice hr1
      cases hs1
      obtain ⟨rg, rfl⟩ := hp1 (by omega)
      obtain ⟨_, hr2, _⟩ := B9.out
      obtain ⟨_, _, hs2, _, _, hp2⟩ := ownsRow_slice hr2
      cases hs2
      obtain ⟨bg, rfl⟩ := hp2 (by omega)
      refine dl_look w9 rg rc y hr1 bg bcap bw hr2 j HY.out hb61 ?_
      intro u166 u167 u168 u169 u170 u171 u172 u173 u174 u175 u176 u177 u178 u179 u180 u181 u182 u183 u184 u185 u186 u187 u188 u189 u190 u191 u192 u193 w10 h10
      obtain ⟨rfl, nq, rfl⟩ := h10
      have S10 := Lib.hid (S9.out.other ((Chg.refl (fun _ => False) _).drewN nq) (fun _ f => f.elim))
      have B10 := Lib.hid (B9.out.chg ((Chg.refl (fun _ => False) _).drewN nq) (fun _ _ f => f))
      clear hr1 hr2 hp1 hp2
      go_wp2_with fail
      go_roundg (bw.length - (j + 1))
      case measure => have := Hg2.out; omega
      case rel => exact ⟨j + 1, by omega, rfl, by go_num, own7, _, S10.out, L_looked L8.out, B10.out, N5.out⟩
    · go_wp2_with fail
      exact HX.out _ ⟨own7, D7, S8.out, L8.out, B8.out, N5.out⟩

set_option maxRecDepth 100000 in
set_option maxHeartbeats 4000000 in
theorem dl_ends {Q0 : Exit → Act → World → Prop} {s0 s1 s2 s3 s4 s5 s6 s7 s8 s10 s11 s12 s13 s14 s15 s16 s19 s20 s21 s22 s23 s24 s25 s26 s27 s28 s29 s30 s31 s32 s33 s34 s35 s36 s37 s38 s39 s40 s41 s42 s43 s44 s45 s46 s47 s48 s49 s50 s51 s52 s53 s54 s55 s56 s57 s58 s59 s60 s61 s62 s63 s64 s65 s66 s67 s68 s69 s70 s71 s72 s73 s74 s75 s76 s77 s78 s79 s80 s81 s82 s83 s84 s85 s86 s87 s88 s89 s90 s91 s92 s93 s94 s95 s96 s97 s98 s99 s100 s101 s102 s103 s104 s105 s106 s107 s108 s109 s110 s111 s112 s113 s114 s115 s116 s117 s118 s119 s120 s121 s122 s123 s124 s125 s126 s127 s128 s129 s130 s131 s132 s133 s134 s135 s136 s137 s138 s139 s140 s141 s142 s143 s144 s145 s146 s147 s148 s149 s150 s151 s152 s153 s154 s155 s156 s157 s158 s159 s160 s161 s162 s163 s164 s165 s166 s167 s168 s169 s170 s171 s172 s173 s174 s175 s176 s177 s178 s179 s180 s181 s182 s183 s184 s185 s186 s187 s188 s189 s190 s191 s192 s193 s194 s195 s196 s197 s198 s199 s200 s201 s202 s203 s204 s205 s206 s207 s208 s209 s210 s211 s212 s213 s214 s215 s216 s217 s218 s219 s220 s221 s222 s223 s224 : Value} (w0 w : World) (ba : Option Addr) (book : List UInt8) (bcap : Nat) (ra : Option Addr) (rc : Nat) (fl : List UInt8) (hfl : ∀ k, k < book.length * 4096 → fl[k]? = book[k / 4096]?) (h60 : book.length ≤ 60) (hb : Below w0.heap.size w0 w) (h1 : w.ownsRow 0 5 1 (.slice ra (book.length * 4096) rc) (book.length * 4096) (bVs fl)) (h2 : w.ownsRow 0 5 1 (.slice ba book.length bcap) book.length (bVs book))
    (hexit : ∀ ⦃u6 u18 u209 u210 u211 u212 u213 u214 u215 u216 u217 u218 u219 u220 u221 u222 u223 u224 : Value⦄ (w' : World), (Below w0.heap.size w0 w') → Q0 .normal ⟨List.toArray (s0 :: s1 :: s2 :: s3 :: s4 :: s5 :: u6 :: s7 :: s8 :: .slice ba book.length bcap :: s10 :: s11 :: s12 :: s13 :: s14 :: s15 :: s16 :: .slice ra (book.length * 4096) rc :: u18 :: s19 :: s20 :: s21 :: s22 :: s23 :: s24 :: s25 :: s26 :: s27 :: s28 :: s29 :: s30 :: s31 :: s32 :: s33 :: s34 :: s35 :: s36 :: s37 :: s38 :: s39 :: s40 :: s41 :: s42 :: s43 :: s44 :: s45 :: s46 :: s47 :: s48 :: s49 :: s50 :: s51 :: s52 :: s53 :: s54 :: s55 :: s56 :: s57 :: s58 :: s59 :: s60 :: s61 :: s62 :: s63 :: s64 :: s65 :: s66 :: s67 :: s68 :: s69 :: s70 :: s71 :: s72 :: s73 :: s74 :: s75 :: s76 :: s77 :: s78 :: s79 :: s80 :: s81 :: s82 :: s83 :: s84 :: s85 :: s86 :: s87 :: s88 :: s89 :: s90 :: s91 :: s92 :: s93 :: s94 :: s95 :: s96 :: s97 :: s98 :: s99 :: s100 :: s101 :: s102 :: s103 :: s104 :: s105 :: s106 :: s107 :: s108 :: s109 :: s110 :: s111 :: s112 :: s113 :: s114 :: s115 :: s116 :: s117 :: s118 :: s119 :: s120 :: s121 :: s122 :: s123 :: s124 :: s125 :: s126 :: s127 :: s128 :: s129 :: s130 :: s131 :: s132 :: s133 :: s134 :: s135 :: s136 :: s137 :: s138 :: s139 :: s140 :: s141 :: s142 :: s143 :: s144 :: s145 :: s146 :: s147 :: s148 :: s149 :: s150 :: s151 :: s152 :: s153 :: s154 :: s155 :: s156 :: s157 :: s158 :: s159 :: s160 :: s161 :: s162 :: s163 :: s164 :: s165 :: s166 :: s167 :: s168 :: s169 :: s170 :: s171 :: s172 :: s173 :: s174 :: s175 :: s176 :: s177 :: s178 :: s179 :: s180 :: s181 :: s182 :: s183 :: s184 :: s185 :: s186 :: s187 :: s188 :: s189 :: s190 :: s191 :: s192 :: s193 :: s194 :: s195 :: s196 :: s197 :: s198 :: s199 :: s200 :: s201 :: s202 :: s203 :: s204 :: s205 :: s206 :: s207 :: s208 :: u209 :: u210 :: u211 :: u212 :: u213 :: u214 :: u215 :: u216 :: u217 :: u218 :: u219 :: u220 :: u221 :: u222 :: u223 :: u224 :: []), []⟩ w') :
    Code.wp Try.prog (blk 4 Try.f3) Q0 ⟨List.toArray (s0 :: s1 :: s2 :: s3 :: s4 :: s5 :: s6 :: s7 :: s8 :: .slice ba book.length bcap :: s10 :: s11 :: s12 :: s13 :: s14 :: s15 :: s16 :: .slice ra (book.length * 4096) rc :: .int .i64 0 :: s19 :: s20 :: s21 :: s22 :: s23 :: s24 :: s25 :: s26 :: s27 :: s28 :: s29 :: s30 :: s31 :: s32 :: s33 :: s34 :: s35 :: s36 :: s37 :: s38 :: s39 :: s40 :: s41 :: s42 :: s43 :: s44 :: s45 :: s46 :: s47 :: s48 :: s49 :: s50 :: s51 :: s52 :: s53 :: s54 :: s55 :: s56 :: s57 :: s58 :: s59 :: s60 :: s61 :: s62 :: s63 :: s64 :: s65 :: s66 :: s67 :: s68 :: s69 :: s70 :: s71 :: s72 :: s73 :: s74 :: s75 :: s76 :: s77 :: s78 :: s79 :: s80 :: s81 :: s82 :: s83 :: s84 :: s85 :: s86 :: s87 :: s88 :: s89 :: s90 :: s91 :: s92 :: s93 :: s94 :: s95 :: s96 :: s97 :: s98 :: s99 :: s100 :: s101 :: s102 :: s103 :: s104 :: s105 :: s106 :: s107 :: s108 :: s109 :: s110 :: s111 :: s112 :: s113 :: s114 :: s115 :: s116 :: s117 :: s118 :: s119 :: s120 :: s121 :: s122 :: s123 :: s124 :: s125 :: s126 :: s127 :: s128 :: s129 :: s130 :: s131 :: s132 :: s133 :: s134 :: s135 :: s136 :: s137 :: s138 :: s139 :: s140 :: s141 :: s142 :: s143 :: s144 :: s145 :: s146 :: s147 :: s148 :: s149 :: s150 :: s151 :: s152 :: s153 :: s154 :: s155 :: s156 :: s157 :: s158 :: s159 :: s160 :: s161 :: s162 :: s163 :: s164 :: s165 :: s166 :: s167 :: s168 :: s169 :: s170 :: s171 :: s172 :: s173 :: s174 :: s175 :: s176 :: s177 :: s178 :: s179 :: s180 :: s181 :: s182 :: s183 :: s184 :: s185 :: s186 :: s187 :: s188 :: s189 :: s190 :: s191 :: s192 :: s193 :: s194 :: s195 :: s196 :: s197 :: s198 :: s199 :: s200 :: s201 :: s202 :: s203 :: s204 :: s205 :: s206 :: s207 :: s208 :: s209 :: s210 :: s211 :: s212 :: s213 :: s214 :: s215 :: s216 :: s217 :: s218 :: s219 :: s220 :: s221 :: s222 :: s223 :: s224 :: []), []⟩ w := by
  have HX := Lib.hid hexit
  have HFG := Lib.hid hfl
  have HB0 := Lib.hid hb
  have H1 := Lib.hid h1
  have H2 := Lib.hid h2
  clear hexit hfl hb h1 h2
  conv => arg 2; whnf
  go_wp2_with fail
  go_loopg [18] (book.length * 4096) (fun g jv wx => ∃ k : Nat, k ≤ book.length * 4096 ∧ g = book.length * 4096 - k ∧ jv = .int .i64 k ∧ Below w0.heap.size w0 wx ∧ wx.ownsRow 0 5 1 (.slice ra (book.length * 4096) rc) (book.length * 4096) (bVs fl) ∧ wx.ownsRow 0 5 1 (.slice ba book.length bcap) book.length (bVs book))
  case atStart => exact ⟨0, by omega, rfl, rfl, HB0.out, H1.out, H2.out⟩
  case round =>
    obtain ⟨k, hk, hg3, rfl, hbw, hr1, hr2⟩ := hrel
    have Hg3 := Lib.hid hg3
    have HB := Lib.hid hbw
    have R1 := Lib.hid hr1
    have R2 := Lib.hid hr2
    clear hr1 hr2 hbw hg3
    by_cases hkl : k < book.length * 4096
    · have hq : k / 4096 < book.length := by omega
      obtain ⟨y, hy⟩ : ∃ y, book[k / 4096]? = some y := ⟨_, List.getElem?_eq_getElem hq⟩
      have hy2 : fl[k]? = some y := (HFG.out k hkl).trans hy
      obtain ⟨_, _, hs1, _, _, hp1⟩ := ownsRow_slice R1.out
      cases hs1
      obtain ⟨rg, rfl⟩ := hp1 (by omega)
      obtain ⟨_, _, hs2, _, _, hp2⟩ := ownsRow_slice R2.out
      cases hs2
      obtain ⟨bg, rfl⟩ := hp2 (by omega)
      have c1 : wr.cell? ⟨rg, k, none⟩ = some (.int .u8 y.toNat) := by
        rw [R1.out.cellAt k (by omega)]; simp [bVs, bV, hy2]
      have c2 : wr.cell? ⟨bg, k / 4096, none⟩ = some (.int .u8 y.toNat) := by
        rw [R2.out.cellAt (k / 4096) (by omega)]; simp [bVs, bV, hy]
      have q1 : (k : Int).tdiv 4096 = ((k / 4096 : Nat) : Int) := rfl
      clear hp1 hp2 hy hy2
      go_upto_region 38 with fail
      go_quiet ((fail))
      go_wp2_with fail
      go_roundg (book.length * 4096 - (k + 1))
      case measure => have := Hg3.out; omega
      case rel => exact ⟨k + 1, by omega, rfl, by go_num, ((Chg.refl (fun _ => False) wr).drewN _).below' HB.out (fun _ f => f.elim), R1.out, R2.out⟩
    · go_wp2_with fail
      exact HX.out _ HB.out

end Go.Proofs.Ytckioocahmbhkaa
