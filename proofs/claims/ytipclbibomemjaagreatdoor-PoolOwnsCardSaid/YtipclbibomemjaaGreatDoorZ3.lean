/- Walks: the law PoolOwns: one call of the script; Free and Usable asked twice. -/
import Derived.Test.YtipclbibomemjaaGreatDoorZ2
import Derived.Deep.CutBlock
import Derived.StillTailTactics
namespace Go.Proofs.YtipclbibomemjaaGreatDoor
open Go Go.RowKit Go.Maps

def blkIn (k : Nat) : Code → Option Code
  | .block n c => if n = k then some (.block n c) else blkIn k c
  | .seq a b => match blkIn k a with
    | some c => some c
    | none => blkIn k b
  | .cond _ a b => match blkIn k a with
    | some c => some c
    | none => blkIn k b
  | .loop c => blkIn k c
  | .scope c => blkIn k c
  | _ => none
noncomputable def blk (k : Nat) (f : Func) : Code := ((f.body.bind (blkIn k)).getD .skip)

set_option maxRecDepth 100000 in
set_option maxHeartbeats 8000000 in
theorem own_twice {Q0 : Exit → Act → World → Prop} {s0 s1 s2 s3 s4 s5 s6 s7 s8 s9 s12 s13 s14 s15 s17 s18 s19 s20 s21 s22 s23 s24 s25 s26 s27 s28 s29 s30 s31 s32 s33 s34 s35 s36 s37 s38 s39 s40 s41 s42 s43 s44 s45 s46 s47 s48 s49 s50 s51 s52 s53 s54 s55 s56 s57 s58 s59 s60 s61 s62 s63 s64 s65 s66 s67 s68 s69 s70 s71 s72 s73 s74 s75 s76 s77 s78 s79 s80 s81 s82 s83 s84 s85 s86 s87 s88 s89 s90 s91 s92 s93 s94 s95 s96 s97 s98 s99 s100 s101 s102 s103 s104 s105 s106 s107 s108 s109 s110 s111 s112 s113 s114 s115 s116 s117 s118 s119 s120 s121 s122 s123 s124 s125 s126 s127 s128 s129 s130 s131 s132 s133 s134 s135 s136 s137 s138 s139 : Value} {w0 w : World} {pb m1 m2 b : Nat} {P : PS} {n : Nat} (h : Own3 w0 w pb m1 m2 b P n) (hok : P.small) (hn : n ≤ 900)
    (hexit : ∀ ⦃u16 u105 u106 u107 u108 u109 u110 u111 u112 u113 u114 u115 u116 : Value⦄ (w' : World), (Own3 w0 w' pb m1 m2 b P (n + 4)) → Q0 .normal ⟨List.toArray (s0 :: s1 :: s2 :: s3 :: s4 :: s5 :: s6 :: s7 :: s8 :: s9 :: .pointer (some ⟨pb, 0, none⟩) :: .pointer (some ⟨b, 0, none⟩) :: s12 :: s13 :: s14 :: s15 :: u16 :: s17 :: s18 :: s19 :: s20 :: s21 :: s22 :: s23 :: s24 :: s25 :: s26 :: s27 :: s28 :: s29 :: s30 :: s31 :: s32 :: s33 :: s34 :: s35 :: s36 :: s37 :: s38 :: s39 :: s40 :: s41 :: s42 :: s43 :: s44 :: s45 :: s46 :: s47 :: s48 :: s49 :: s50 :: s51 :: s52 :: s53 :: s54 :: s55 :: s56 :: s57 :: s58 :: s59 :: s60 :: s61 :: s62 :: s63 :: s64 :: s65 :: s66 :: s67 :: s68 :: s69 :: s70 :: s71 :: s72 :: s73 :: s74 :: s75 :: s76 :: s77 :: s78 :: s79 :: s80 :: s81 :: s82 :: s83 :: s84 :: s85 :: s86 :: s87 :: s88 :: s89 :: s90 :: s91 :: s92 :: s93 :: s94 :: s95 :: s96 :: s97 :: s98 :: s99 :: s100 :: s101 :: s102 :: s103 :: s104 :: u105 :: u106 :: u107 :: u108 :: u109 :: u110 :: u111 :: u112 :: u113 :: u114 :: u115 :: u116 :: s117 :: s118 :: s119 :: s120 :: s121 :: s122 :: s123 :: s124 :: s125 :: s126 :: s127 :: s128 :: s129 :: s130 :: s131 :: s132 :: s133 :: s134 :: s135 :: s136 :: s137 :: s138 :: s139 :: []), []⟩ w') :
    Code.wp Tryz.prog (blk 3 Tryz.f3) Q0 ⟨List.toArray (s0 :: s1 :: s2 :: s3 :: s4 :: s5 :: s6 :: s7 :: s8 :: s9 :: .pointer (some ⟨pb, 0, none⟩) :: .pointer (some ⟨b, 0, none⟩) :: s12 :: s13 :: s14 :: s15 :: .int .i64 0 :: s17 :: s18 :: s19 :: s20 :: s21 :: s22 :: s23 :: s24 :: s25 :: s26 :: s27 :: s28 :: s29 :: s30 :: s31 :: s32 :: s33 :: s34 :: s35 :: s36 :: s37 :: s38 :: s39 :: s40 :: s41 :: s42 :: s43 :: s44 :: s45 :: s46 :: s47 :: s48 :: s49 :: s50 :: s51 :: s52 :: s53 :: s54 :: s55 :: s56 :: s57 :: s58 :: s59 :: s60 :: s61 :: s62 :: s63 :: s64 :: s65 :: s66 :: s67 :: s68 :: s69 :: s70 :: s71 :: s72 :: s73 :: s74 :: s75 :: s76 :: s77 :: s78 :: s79 :: s80 :: s81 :: s82 :: s83 :: s84 :: s85 :: s86 :: s87 :: s88 :: s89 :: s90 :: s91 :: s92 :: s93 :: s94 :: s95 :: s96 :: s97 :: s98 :: s99 :: s100 :: s101 :: s102 :: s103 :: s104 :: s105 :: s106 :: s107 :: s108 :: s109 :: s110 :: s111 :: s112 :: s113 :: s114 :: s115 :: s116 :: s117 :: s118 :: s119 :: s120 :: s121 :: s122 :: s123 :: s124 :: s125 :: s126 :: s127 :: s128 :: s129 :: s130 :: s131 :: s132 :: s133 :: s134 :: s135 :: s136 :: s137 :: s138 :: s139 :: []), []⟩ w := by
  have HX := Lib.hid hexit
  have HO := Lib.hid h
  have Hok := Lib.hid hok
  clear h hexit hok
  conv => arg 2; whnf
  go_wp2_with fail
  go_loopg [16] 2 (fun gm jv wr => ∃ (j : Nat), j ≤ 2 ∧ gm = 2 - j ∧ jv = .int .i64 j ∧ Own3 w0 wr pb m1 m2 b P (n + 2 * j))
  case atStart => exact ⟨0, by omega, rfl, rfl, HO.out⟩
  case round =>
    obtain ⟨j, hj, hg, rfl, hO⟩ := hrel
    have Hg := Lib.hid hg
    have HOr := Lib.hid hO
    clear hg hO HO
    by_cases hlt : j < 2
    · have hji : (j : Int) < 2 := by omega
      go_wp2_with fail
      refine (free_p HOr.out.pool Hok.out rfl).mono ?_
      rintro e wa ⟨a1, c1, rfl, hN, hc⟩
      go_wp2_with fail
      refine (keep_own HOr.out (by omega) (hc.mono (fun _ f => f.elim)) (HOr.out.pool.chg0 hc) hN (lens_small Hok.out.ok).1).mono ?_
      rintro e wb ⟨rfl, hO2⟩
      have HO2 := Lib.hid hO2
      clear hN hc hO2
      go_wp2_with fail
      refine (usable_p HO2.out.pool Hok.out rfl).mono ?_
      rintro e wc ⟨a2, c2, rfl, hN, hc⟩
      go_wp2_with fail
      refine (keep_own HO2.out (by omega) (hc.mono (fun _ f => f.elim)) (HO2.out.pool.chg0 hc) hN (lens_small Hok.out.ok).2).mono ?_
      rintro e wd ⟨rfl, hO3⟩
      have HO3 := Lib.hid hO3
      clear hN hc hO3
      go_wp2_with fail
      go_roundg (2 - (j + 1))
      case measure => have := Hg.out; omega
      case rel => exact ⟨j + 1, by omega, rfl, by go_num, HO3.out.mono (by omega)⟩
    · have hji : ¬ (j : Int) < 2 := by omega
      go_wp2_with fail
      exact HX.out _ (HOr.out.mono (by omega))

theorem newI_lt {w : World} {g n c : Nat} {xs : List Value} (h : w.ownsRow 0 3 1 (.slice (some ⟨g, 0, none⟩) n c) n xs) : g < w.heap.size := by
  rcases own_form h with ⟨e, _⟩ | ⟨g2, cap, cs, e, _, hh⟩
  · cases e
  · cases e; exact heap_lt hh
/-- A call's argument, laid. -/
structure OB (w0 w : World) (pb m1 m2 : Nat) (ob : Nat) (o : OpD) (ga : Option Addr) (gc : Nat) : Prop where
  blk : w.heap[ob]? = some (.cells #[.int .i64 o.kind, .int .i64 o.a, .int .i64 o.b, .slice ga o.gone.length gc, .bool o.second] 48)
  sees : SeesI w (.slice ga o.gone.length gc) o.gone
  off : ob ≠ pb ∧ ob ≠ m1 ∧ ob ≠ m2
theorem OB.cells {w0 w : World} {pb m1 m2 ob : Nat} {o : OpD} {ga : Option Addr} {gc : Nat} (h : OB w0 w pb m1 m2 ob o ga gc) : w.cell? ⟨ob, 0, none⟩ = some (.int .i64 o.kind) ∧ w.cell? ⟨ob, 1, none⟩ = some (.int .i64 o.a) ∧ w.cell? ⟨ob, 2, none⟩ = some (.int .i64 o.b) ∧ w.cell? ⟨ob, 3, none⟩ = some (.slice ga o.gone.length gc) := by
  refine ⟨?_, ?_, ?_, ?_⟩ <;> simp [World.cell?, h.blk]
theorem OB.chg0 {w0 w w' : World} {pb m1 m2 ob : Nat} {o : OpD} {ga : Option Addr} {gc : Nat} (h : OB w0 w pb m1 m2 ob o ga gc) (hc : Chg (fun _ => False) w w') : OB w0 w' pb m1 m2 ob o ga gc := ⟨hc.get h.blk (fun f => f), h.sees.chg0 hc, h.off⟩

set_option maxRecDepth 100000 in
set_option maxHeartbeats 8000000 in
theorem own_call {Q0 : Exit → Act → World → Prop} {s0 s1 s2 s3 s4 s5 s6 s7 s8 s9 s12 s14 s15 s16 s17 s18 s19 s20 s21 s22 s23 s24 s25 s26 s27 s28 s29 s30 s31 s32 s33 s34 s35 s36 s37 s38 s39 s40 s41 s42 s43 s44 s45 s46 s47 s48 s49 s50 s51 s52 s53 s54 s55 s56 s57 s58 s59 s60 s61 s62 s63 s64 s65 s66 s67 s68 s69 s70 s71 s72 s73 s74 s76 s77 s78 s79 s80 s81 s82 s83 s84 s85 s86 s87 s88 s89 s90 s91 s92 s93 s94 s95 s96 s97 s98 s99 s100 s101 s102 s103 s104 s105 s106 s107 s108 s109 s110 s111 s112 s113 s114 s115 s116 s117 s118 s119 s120 s121 s122 s123 s124 s125 s126 s127 s128 s129 s130 s131 s132 s133 s134 s135 s136 s137 s138 s139 : Value} {w0 w : World} {pb m1 m2 b : Nat} {P : PS} {n k : Nat} (h : Own3 w0 w pb m1 m2 b P n) (hfit : P.fit k) (hk : k ≤ 1000) (hn : n ≤ 900) {ob : Nat} {o : OpD} {ga : Option Addr} {gc : Nat} (hb : OB w0 w pb m1 m2 ob o ga gc) (ho : o.ok) (hl : o.gone.length ≤ 60)
    (hexit : ∀ ⦃u14 u15 u76 u77 u78 u79 u80 u81 u82 u83 u84 u85 u86 u87 u88 u89 u90 u91 u92 u93 u94 u95 u96 u97 u98 u99 u100 u101 u102 u103 u104 : Value⦄ (w' : World), (Own3 w0 w' pb m1 m2 b (P.does o.kind o.a o.b o.gone) (n + 1)) → Q0 .normal ⟨List.toArray (s0 :: s1 :: s2 :: s3 :: s4 :: s5 :: s6 :: s7 :: s8 :: s9 :: .pointer (some ⟨pb, 0, none⟩) :: .pointer (some ⟨b, 0, none⟩) :: s12 :: .pointer (some ⟨ob, 0, none⟩) :: u14 :: u15 :: s16 :: s17 :: s18 :: s19 :: s20 :: s21 :: s22 :: s23 :: s24 :: s25 :: s26 :: s27 :: s28 :: s29 :: s30 :: s31 :: s32 :: s33 :: s34 :: s35 :: s36 :: s37 :: s38 :: s39 :: s40 :: s41 :: s42 :: s43 :: s44 :: s45 :: s46 :: s47 :: s48 :: s49 :: s50 :: s51 :: s52 :: s53 :: s54 :: s55 :: s56 :: s57 :: s58 :: s59 :: s60 :: s61 :: s62 :: s63 :: s64 :: s65 :: s66 :: s67 :: s68 :: s69 :: s70 :: s71 :: s72 :: s73 :: s74 :: .int .i64 o.kind :: u76 :: u77 :: u78 :: u79 :: u80 :: u81 :: u82 :: u83 :: u84 :: u85 :: u86 :: u87 :: u88 :: u89 :: u90 :: u91 :: u92 :: u93 :: u94 :: u95 :: u96 :: u97 :: u98 :: u99 :: u100 :: u101 :: u102 :: u103 :: u104 :: s105 :: s106 :: s107 :: s108 :: s109 :: s110 :: s111 :: s112 :: s113 :: s114 :: s115 :: s116 :: s117 :: s118 :: s119 :: s120 :: s121 :: s122 :: s123 :: s124 :: s125 :: s126 :: s127 :: s128 :: s129 :: s130 :: s131 :: s132 :: s133 :: s134 :: s135 :: s136 :: s137 :: s138 :: s139 :: []), []⟩ w') :
    Code.wp Tryz.prog (blk 2 Tryz.f3) Q0 ⟨List.toArray (s0 :: s1 :: s2 :: s3 :: s4 :: s5 :: s6 :: s7 :: s8 :: s9 :: .pointer (some ⟨pb, 0, none⟩) :: .pointer (some ⟨b, 0, none⟩) :: s12 :: .pointer (some ⟨ob, 0, none⟩) :: s14 :: s15 :: s16 :: s17 :: s18 :: s19 :: s20 :: s21 :: s22 :: s23 :: s24 :: s25 :: s26 :: s27 :: s28 :: s29 :: s30 :: s31 :: s32 :: s33 :: s34 :: s35 :: s36 :: s37 :: s38 :: s39 :: s40 :: s41 :: s42 :: s43 :: s44 :: s45 :: s46 :: s47 :: s48 :: s49 :: s50 :: s51 :: s52 :: s53 :: s54 :: s55 :: s56 :: s57 :: s58 :: s59 :: s60 :: s61 :: s62 :: s63 :: s64 :: s65 :: s66 :: s67 :: s68 :: s69 :: s70 :: s71 :: s72 :: s73 :: s74 :: .int .i64 o.kind :: s76 :: s77 :: s78 :: s79 :: s80 :: s81 :: s82 :: s83 :: s84 :: s85 :: s86 :: s87 :: s88 :: s89 :: s90 :: s91 :: s92 :: s93 :: s94 :: s95 :: s96 :: s97 :: s98 :: s99 :: s100 :: s101 :: s102 :: s103 :: s104 :: s105 :: s106 :: s107 :: s108 :: s109 :: s110 :: s111 :: s112 :: s113 :: s114 :: s115 :: s116 :: s117 :: s118 :: s119 :: s120 :: s121 :: s122 :: s123 :: s124 :: s125 :: s126 :: s127 :: s128 :: s129 :: s130 :: s131 :: s132 :: s133 :: s134 :: s135 :: s136 :: s137 :: s138 :: s139 :: []), []⟩ w := by
  have HX := Lib.hid hexit
  have HO := Lib.hid h
  have HF := Lib.hid hfit
  have HB := Lib.hid hb
  have Ho := Lib.hid ho
  have Hok := Lib.hid (hfit.small (show k < 1000000 by omega))
  obtain ⟨x0, x1, x2, x3⟩ := hb.cells
  obtain ⟨kd, hkd⟩ : ∃ kd, kd = o.kind := ⟨_, rfl⟩
  rw [← hkd] at HX x0 ⊢
  have HKd := Lib.hid hkd
  have hl6 : o.gone.length ≤ 1000000 := by omega
  clear h hexit hfit hb ho hkd
  conv => arg 2; whnf
  by_cases k1 : kd = 1
  · have q1 : (kd == 1) = true := by rw [beq_iff_eq]; exact k1
    have HE : Hid (P.does kd o.a o.b o.gone = { P with pins := P.pins ++ [o.a], wr := P.wr + 1 }) := Lib.hid (by unfold PS.does; rw [if_pos k1])
    clear k1
    go_wp2_with fail
    refine (pin_any _ _ _ _ _ HO.out.pool (by have := Hok.out.wr; omega) (by have := Hok.out.pins; omega) o.a Ho.out.a).mono ?_
    rintro e w5 ⟨rfl, hp, hc⟩
    have HO5 := Lib.hid ((HO.out.work (hc.mono (fun x e => .inr (.inr e))) hp).mono (Nat.le_succ n))
    rw [← HE.out] at HO5
    clear hp hc
    go_wp2_with fail
    exact HX.out _ HO5.out
  · have q1 : (kd == 1) = false := by rw [beq_eq_false_iff_ne]; exact k1
    by_cases k2 : kd = 2
    · have q2 : (kd == 2) = true := by rw [beq_iff_eq]; exact k2
      have HE : Hid (P.does kd o.a o.b o.gone = { P with pins := P.pins.erase o.a, wr := P.wr + 1 }) := Lib.hid (by unfold PS.does; rw [if_neg k1, if_pos k2])
      clear k1 k2
      go_wp2_with fail
      refine (unpin_any _ _ _ _ _ HO.out.pool (by have := Hok.out.wr; omega) (by have := Hok.out.pins; omega) o.a Ho.out.a).mono ?_
      rintro e w5 ⟨rfl, hp, hc⟩
      have HO5 := Lib.hid ((HO.out.work (hc.mono (fun x e => .inr (.inr e))) hp).mono (Nat.le_succ n))
      rw [← HE.out] at HO5
      clear hp hc
      go_wp2_with fail
      exact HX.out _ HO5.out
    · have q2 : (kd == 2) = false := by rw [beq_eq_false_iff_ne]; exact k2
      by_cases k5 : kd = 5
      · have q5 : (kd == 5) = true := by rw [beq_iff_eq]; exact k5
        obtain ⟨zs, cc, P', hC⟩ : ∃ zs cc P', P.commit o.a o.gone o.b = (zs, cc, P') := ⟨_, _, _, rfl⟩
        have HE : Hid (P.does kd o.a o.b o.gone = P') := Lib.hid (by unfold PS.does; rw [if_neg k1, if_neg k2, if_pos k5, hC])
        have HC := Lib.hid hC
        have HZ := Lib.hid (commit_len2 HF.out hC)
        have Bd := Lib.hid (HB.out.chg0 (Chg.refl (fun _ => False) w).drew)
        have Od := Lib.hid (HO.out.chg0 (Chg.refl (fun _ => False) w).drew)
        have y1 : w.drew.cell? ⟨ob, 1, none⟩ = some (.int .i64 o.a) := x1
        clear k1 k2 k5 hC
        go_wp2_with fail
        go_region_held3 (fun w' => w'.cell? ⟨ob, 1, none⟩ = some (.int .i64 o.a) ∧ w'.cell? ⟨ob, 2, none⟩ = some (.int .i64 o.b) ∧ w'.cell? ⟨ob, 3, none⟩ = some (.slice ga o.gone.length gc))
          (first
            | exact kx7
            | exact kx6
            | go_keep)
          (first
            | (go_simp; go_at_call 7; refine (ints_any _ _ o.gone Bd.out.sees hl6).mono ?_; rintro e w6 ⟨g6, c6, rfl, hN6, hc6⟩; have B6 := Lib.hid (Bd.out.chg0 hc6); have O6 := Lib.hid (Od.out.chg0 hc6); have N6 := Lib.hid hN6; have kx6 := B6.out.cells.2; have L6 := Lib.hid hc6.size; clear hN6 hc6)
            | (go_simp; go_at_call 11; refine (commit_p (w := w6) O6.out.pool Hok.out o.a Ho.out.a N6.out.sees hl6 Ho.out.gone o.b Ho.out.b (fun ad n c e hne => by cases e; have h1 := N6.out.2 g6 rfl; have h2 := Od.out.pool.lt.1; have h4 := Od.out.pool.lt.2.1; have h3 := newI_lt N6.out.1; exact ⟨by show g6 ≠ pb; omega, by show g6 ≠ m1; omega, h3⟩) HC.out).mono ?_; rintro e w7 ⟨a7, c7, rfl, hN7, hp7, hc7⟩; have O7 := Lib.hid (And.intro hN7 (And.intro hp7 hc7)); have kx7 : w7.cell? ⟨ob, 1, none⟩ = some (.int .i64 o.a) ∧ w7.cell? ⟨ob, 2, none⟩ = some (.int .i64 o.b) ∧ w7.cell? ⟨ob, 3, none⟩ = some (.slice ga o.gone.length gc) := ⟨hc7.get_cell B6.out.cells.2.1 (fun e => e.elim B6.out.off.1 B6.out.off.2.1), hc7.get_cell B6.out.cells.2.2.1 (fun e => e.elim B6.out.off.1 B6.out.off.2.1), hc7.get_cell B6.out.cells.2.2.2 (fun e => e.elim B6.out.off.1 B6.out.off.2.1)⟩; clear hN7 hp7 hc7))
        all_goals
          go_wp2_with fail
          refine (keep_own O6.out (by omega) (O7.out.2.2.mono (fun x e => e.elim .inl (fun e => .inr (.inl e)))) O7.out.2.1 O7.out.1 HZ.out).mono ?_
          rintro e w8 ⟨rfl, hO8⟩
          rw [← HE.out] at hO8
          have HO8 := Lib.hid hO8
          clear hO8
          go_wp2_with fail
          exact HX.out _ HO8.out
      · have q5 : (kd == 5) = false := by rw [beq_eq_false_iff_ne]; exact k5
        have HE : Hid (P.does kd o.a o.b o.gone = P) := Lib.hid (by unfold PS.does; rw [if_neg k1, if_neg k2, if_neg k5])
        clear k1 k2 k5
        go_wp2_with fail
        exact HX.out _ (by rw [HE.out]; exact HO.out.mono (Nat.le_succ n))
end Go.Proofs.YtipclbibomemjaaGreatDoor
