/- Walks: a life's turn: its head. -/
import Derived.Test.YtipclbibomemjaaN11
import Derived.Test.YtipclbibomemjaaV15
namespace Go.Proofs.Ytipclbibomemjaa
open Go Go.RowKit Go.Maps

def isTmp (k : Nat) : Operand → Bool
  | .tmp n => n == k
  | _ => false
def cndIn (k : Nat) : Code → Option Code
  | .block _ c => cndIn k c
  | .seq a b => match cndIn k a with
    | some c => some c
    | none => cndIn k b
  | .cond o a b => if isTmp k o then some (.cond o a b) else match cndIn k a with
    | some c => some c
    | none => cndIn k b
  | .loop c => cndIn k c
  | .scope c => cndIn k c
  | _ => none
noncomputable def cnd (k : Nat) (f : Func) : Code := ((f.body.bind (cndIn k)).getD .skip)
/-- A turn's argument, laid; it is not the life's. -/
structure TB (w : World) (own : OwnR) (ob : Nat) (t : Turn) : Prop where
  blk : w.heap[ob]? = some (turnObj t)
  far : own ob = none
theorem TB.step {w w' : World} {own own' : OwnR} {ob : Nat} {t : Turn} (h : TB w own ob t) (hs : OStep w own w' own') : TB w' own' ob t := by
  refine ⟨hs.chg.get h.blk (fun f => f h.far), ?_⟩
  cases ho : own' ob with
  | none => rfl
  | some r =>
    rcases hs.sub ob (by rw [ho]; simp) with e | e
    · exact (e h.far).elim
    · have := heap_lt h.blk; omega

set_option maxRecDepth 100000 in
set_option maxHeartbeats 8000000 in
theorem tn_top {Q0 : Exit → Act → World → Prop} {s1 s2 s4 s5 s6 s7 s8 s9 s10 s11 s12 s13 s14 s15 s16 s17 s19 s20 s21 s22 s23 s24 s25 s26 s27 s28 s29 s30 s31 s32 s33 s34 s35 s36 s37 s38 s39 s40 s41 s42 s43 s44 s45 s46 s47 s48 s49 s50 s51 s52 s53 s54 s55 s56 s57 s58 s59 s60 s61 s62 s63 s64 s65 s66 s67 s68 s69 s70 s71 s72 s73 s74 s75 s76 s77 s78 s79 s80 s81 s82 s83 s84 s85 s86 s87 s88 s89 s90 s91 s92 s93 s94 s95 s96 s97 s98 s99 s100 s101 s102 s103 s104 s105 s106 s107 s108 s109 s110 s111 s112 s113 s114 s115 s116 s117 s118 s119 s120 s121 s122 s123 s124 s125 s126 s127 s128 s129 s130 s131 s132 s133 s134 s135 s136 s137 s138 s139 s140 s141 s142 s143 s144 s145 s146 s147 s148 s149 s150 s151 s152 s153 s154 s155 s156 s157 s158 s159 s160 s161 s162 s163 s164 s165 s166 s167 s168 s169 s170 s171 s172 s173 s174 s175 s176 s177 s178 s179 s180 s181 s182 s183 s184 s185 s186 s187 s188 s189 s190 s191 s192 s193 s194 s195 s196 s197 s198 s199 s200 s201 s202 s203 s204 s205 s206 s207 s208 s209 s210 s211 s212 s213 s214 s215 s216 s217 s218 s219 s220 s221 s222 s223 s224 s225 s226 s227 s228 s229 s230 s231 s232 s233 s234 s235 s236 s237 s238 s239 s240 s241 s242 s243 s244 s245 s246 s247 s248 s249 s250 s251 s252 s253 s254 s255 s256 s257 s258 s259 s260 s261 s262 s263 s264 s265 s266 s267 s268 s269 s270 s271 s272 s273 s274 s275 : Value} {w : World} {own : OwnR} {xb pb m1 m2 : Nat} {S : LS} {mv fv sv pv : Value} (h : LifeF w own xb pb m1 m2 S.data mv fv sv pv) {ob : Nat} {t : Turn} (ht : TB w own ob t) (hok : t.ok) (hl : S.P.pins.length < 1000000) (hw : S.P.wr < 1000000) {c : Bool} (hc : decide (0 < t.pin) = c)
    (hexit : ∀ ⦃u19 u20 u21 u22 u23 u24 u25 u26 u27 u28 u29 u30 u31 u32 u33 u34 u35 u36 : Value⦄ (w' : World), (∃ own' pv', LifeF w' own' xb pb m1 m2 (S.top t).data mv fv sv pv' ∧ OStep w own w' own') → Q0 .normal ⟨List.toArray (.pointer (some ⟨xb, 0, none⟩) :: s1 :: s2 :: .pointer (some ⟨ob, 0, none⟩) :: s4 :: s5 :: s6 :: s7 :: s8 :: s9 :: s10 :: s11 :: s12 :: s13 :: s14 :: s15 :: s16 :: s17 :: .bool c :: u19 :: u20 :: u21 :: u22 :: u23 :: u24 :: u25 :: u26 :: u27 :: u28 :: u29 :: u30 :: u31 :: u32 :: u33 :: u34 :: u35 :: u36 :: s37 :: s38 :: s39 :: s40 :: s41 :: s42 :: s43 :: s44 :: s45 :: s46 :: s47 :: s48 :: s49 :: s50 :: s51 :: s52 :: s53 :: s54 :: s55 :: s56 :: s57 :: s58 :: s59 :: s60 :: s61 :: s62 :: s63 :: s64 :: s65 :: s66 :: s67 :: s68 :: s69 :: s70 :: s71 :: s72 :: s73 :: s74 :: s75 :: s76 :: s77 :: s78 :: s79 :: s80 :: s81 :: s82 :: s83 :: s84 :: s85 :: s86 :: s87 :: s88 :: s89 :: s90 :: s91 :: s92 :: s93 :: s94 :: s95 :: s96 :: s97 :: s98 :: s99 :: s100 :: s101 :: s102 :: s103 :: s104 :: s105 :: s106 :: s107 :: s108 :: s109 :: s110 :: s111 :: s112 :: s113 :: s114 :: s115 :: s116 :: s117 :: s118 :: s119 :: s120 :: s121 :: s122 :: s123 :: s124 :: s125 :: s126 :: s127 :: s128 :: s129 :: s130 :: s131 :: s132 :: s133 :: s134 :: s135 :: s136 :: s137 :: s138 :: s139 :: s140 :: s141 :: s142 :: s143 :: s144 :: s145 :: s146 :: s147 :: s148 :: s149 :: s150 :: s151 :: s152 :: s153 :: s154 :: s155 :: s156 :: s157 :: s158 :: s159 :: s160 :: s161 :: s162 :: s163 :: s164 :: s165 :: s166 :: s167 :: s168 :: s169 :: s170 :: s171 :: s172 :: s173 :: s174 :: s175 :: s176 :: s177 :: s178 :: s179 :: s180 :: s181 :: s182 :: s183 :: s184 :: s185 :: s186 :: s187 :: s188 :: s189 :: s190 :: s191 :: s192 :: s193 :: s194 :: s195 :: s196 :: s197 :: s198 :: s199 :: s200 :: s201 :: s202 :: s203 :: s204 :: s205 :: s206 :: s207 :: s208 :: s209 :: s210 :: s211 :: s212 :: s213 :: s214 :: s215 :: s216 :: s217 :: s218 :: s219 :: s220 :: s221 :: s222 :: s223 :: s224 :: s225 :: s226 :: s227 :: s228 :: s229 :: s230 :: s231 :: s232 :: s233 :: s234 :: s235 :: s236 :: s237 :: s238 :: s239 :: s240 :: s241 :: s242 :: s243 :: s244 :: s245 :: s246 :: s247 :: s248 :: s249 :: s250 :: s251 :: s252 :: s253 :: s254 :: s255 :: s256 :: s257 :: s258 :: s259 :: s260 :: s261 :: s262 :: s263 :: s264 :: s265 :: s266 :: s267 :: s268 :: s269 :: s270 :: s271 :: s272 :: s273 :: s274 :: s275 :: []), []⟩ w') :
    Code.wp Try.prog (cnd 18 Try.f13) Q0 ⟨List.toArray (.pointer (some ⟨xb, 0, none⟩) :: s1 :: s2 :: .pointer (some ⟨ob, 0, none⟩) :: s4 :: s5 :: s6 :: s7 :: s8 :: s9 :: s10 :: s11 :: s12 :: s13 :: s14 :: s15 :: s16 :: s17 :: .bool c :: s19 :: s20 :: s21 :: s22 :: s23 :: s24 :: s25 :: s26 :: s27 :: s28 :: s29 :: s30 :: s31 :: s32 :: s33 :: s34 :: s35 :: s36 :: s37 :: s38 :: s39 :: s40 :: s41 :: s42 :: s43 :: s44 :: s45 :: s46 :: s47 :: s48 :: s49 :: s50 :: s51 :: s52 :: s53 :: s54 :: s55 :: s56 :: s57 :: s58 :: s59 :: s60 :: s61 :: s62 :: s63 :: s64 :: s65 :: s66 :: s67 :: s68 :: s69 :: s70 :: s71 :: s72 :: s73 :: s74 :: s75 :: s76 :: s77 :: s78 :: s79 :: s80 :: s81 :: s82 :: s83 :: s84 :: s85 :: s86 :: s87 :: s88 :: s89 :: s90 :: s91 :: s92 :: s93 :: s94 :: s95 :: s96 :: s97 :: s98 :: s99 :: s100 :: s101 :: s102 :: s103 :: s104 :: s105 :: s106 :: s107 :: s108 :: s109 :: s110 :: s111 :: s112 :: s113 :: s114 :: s115 :: s116 :: s117 :: s118 :: s119 :: s120 :: s121 :: s122 :: s123 :: s124 :: s125 :: s126 :: s127 :: s128 :: s129 :: s130 :: s131 :: s132 :: s133 :: s134 :: s135 :: s136 :: s137 :: s138 :: s139 :: s140 :: s141 :: s142 :: s143 :: s144 :: s145 :: s146 :: s147 :: s148 :: s149 :: s150 :: s151 :: s152 :: s153 :: s154 :: s155 :: s156 :: s157 :: s158 :: s159 :: s160 :: s161 :: s162 :: s163 :: s164 :: s165 :: s166 :: s167 :: s168 :: s169 :: s170 :: s171 :: s172 :: s173 :: s174 :: s175 :: s176 :: s177 :: s178 :: s179 :: s180 :: s181 :: s182 :: s183 :: s184 :: s185 :: s186 :: s187 :: s188 :: s189 :: s190 :: s191 :: s192 :: s193 :: s194 :: s195 :: s196 :: s197 :: s198 :: s199 :: s200 :: s201 :: s202 :: s203 :: s204 :: s205 :: s206 :: s207 :: s208 :: s209 :: s210 :: s211 :: s212 :: s213 :: s214 :: s215 :: s216 :: s217 :: s218 :: s219 :: s220 :: s221 :: s222 :: s223 :: s224 :: s225 :: s226 :: s227 :: s228 :: s229 :: s230 :: s231 :: s232 :: s233 :: s234 :: s235 :: s236 :: s237 :: s238 :: s239 :: s240 :: s241 :: s242 :: s243 :: s244 :: s245 :: s246 :: s247 :: s248 :: s249 :: s250 :: s251 :: s252 :: s253 :: s254 :: s255 :: s256 :: s257 :: s258 :: s259 :: s260 :: s261 :: s262 :: s263 :: s264 :: s265 :: s266 :: s267 :: s268 :: s269 :: s270 :: s271 :: s272 :: s273 :: s274 :: s275 :: []), []⟩ w := by
  have HX := Lib.hid hexit
  have HF := Lib.hid h
  have HT := Lib.hid ht
  have HOk := Lib.hid hok
  obtain ⟨c0, _⟩ := h.cells
  obtain ⟨_, _, t2, _⟩ := turn_cells ht.blk
  have HC := Lib.hid hc
  clear h hexit ht hok hc
  conv => arg 2; whnf
  cases c with
  | false =>
    have HE : Hid (S.top t = S) := Lib.hid (by unfold LS.top; rw [if_neg (of_decide_eq_false HC.out)])
    go_wp2_with fail
    exact HX.out _ ⟨own, pv, by rw [HE.out]; exact HF.out, OStep.refl _ _⟩
  | true =>
    have HE : Hid (S.top t = S.pin t.pin) := Lib.hid (by unfold LS.top; rw [if_pos (of_decide_eq_true HC.out)])
    have q0 : w.drew.cell? ⟨xb, 0, none⟩ = some (.pointer (some ⟨pb, 0, none⟩)) := c0
    have q2 : w.drew.cell? ⟨ob, 2, none⟩ = some (.int .i64 t.pin) := t2
    have HFd := Lib.hid (HF.out.chg0 (Chg.refl (fun _ => False) w).drew)
    go_wp2_with fail
    go_still_tail 6, (by kernel_rfl)
    change wpList _ _ _ _ _ w.drew
    go_wp2_with fail
    refine (pin_any _ _ _ _ _ HFd.out.pool hw hl t.pin HOk.out.pin).mono ?_
    rintro e w3 ⟨rfl, h3, c3⟩
    obtain ⟨e1, e2⟩ := HFd.out.work h3 c3 (fun k e => .inr (.inr e))
    have HF3 := Lib.hid e1
    have HS3 := Lib.hid ((OStep.of0 own (Chg.refl (fun _ => False) w).drew).trans e2)
    clear e1 e2 h3 c3 q0 q2 c0 t2
    go_upto_region 3 with fail
    refine tn_pin HF3.out (HT.out.step HS3.out).blk (Nat.le_of_lt hl) ?_
    intro u26 u27 u28 u29 u30 u31 u32 u33 u34 u35 u36 w4 h4
    obtain ⟨own4, pv4, h4, s4⟩ := h4
    have HF4 : Hid (LifeF w4 own4 xb pb m1 m2 (S.top t).data mv fv sv pv4) := Lib.hid (by rw [HE.out]; exact h4)
    have HS4 := Lib.hid (HS3.out.trans s4)
    clear h4 s4
    go_wp2_with fail
    exact HX.out _ ⟨own4, pv4, HF4.out, HS4.out⟩

theorem Kept.farP {w : World} {own : OwnR} {v : Value} {zs : List Int} {pb m1 : Nat} (h : Kept w own v zs) (r1 : own pb = some 1) (r2 : own m1 = some 2) : ∀ ad n c, v = .slice (some ad) n c → zs ≠ [] → ad.block ≠ pb ∧ ad.block ≠ m1 ∧ ad.block < w.heap.size := by
  intro ad n c e hne
  obtain ⟨h1, h2⟩ := h.far ad n c e hne
  refine ⟨fun e2 => ?_, fun e2 => ?_, h2⟩
  · rw [e2, r1] at h1; cases h1
  · rw [e2, r2] at h1; cases h1
theorem Kept.of_new {w w' : World} {own : OwnR} {xb pb m1 m2 : Nat} {D : LD} {mv fv sv pv v : Value} {zs : List Int} (h : LifeF w own xb pb m1 m2 D mv fv sv pv) (hN : NewI w w' v zs) : Kept w' own v zs := by
  refine ⟨hN.sees, fun ad n c e hne => ?_⟩
  subst e
  obtain ⟨g, e2⟩ : ∃ g, ad = ⟨g, 0, none⟩ := by
    rcases hN.1.2 with ⟨e, _⟩ | ⟨g, cap, cur, e, _⟩
    · cases e
    · cases e; exact ⟨g, rfl⟩
  subst e2
  have h1 := hN.2 g rfl
  refine ⟨?_, ownsRow_lt hN.1 rfl⟩
  cases ho : own g with
  | none => rfl
  | some r => have := h.lt g (by rw [ho]; simp); omega
theorem hasK_eq (zs : List Int) (x : Int) : hasK zs x = decide (x ∈ zs) := by
  unfold hasK; rw [List.contains_eq_mem]
theorem commit_a {S : LS} {n : Nat} (h : S.fit n) {d g : Int} {ver : Int} {zs : List Int} {cc : Int} {P' : PS} (hC : S.P.commit d (givesK S.mine g) ver = (zs, cc, P')) (hf : S.P.lists d (givesK S.mine g) < 0) : d < 0 ∧ cc = 171 ∧ P' = S.P := by
  obtain ⟨h1, h2, _, _⟩ := gone_facts h g
  unfold PS.commit at hC
  rw [if_pos hf] at hC
  cases hC
  refine ⟨?_, rfl, rfl⟩
  unfold PS.lists at hf
  split at hf
  · assumption
  rw [h1, h2] at hf
  simp at hf <;> omega
theorem commit_b {P : PS} {d : Int} {gone : List Int} {ver : Int} {zs : List Int} {cc : Int} {P' : PS} (hC : P.commit d gone ver = (zs, cc, P')) (hf : ¬ P.lists d gone < 0) (hr : P.room < d + P.lists d gone) : cc = 170 ∧ P' = P := by
  unfold PS.commit at hC
  rw [if_neg hf, if_pos (by omega)] at hC
  cases hC
  exact ⟨rfl, rfl⟩
theorem commit_c {P : PS} {d : Int} {gone : List Int} {ver : Int} {zs : List Int} {cc : Int} {P' : PS} (hC : P.commit d gone ver = (zs, cc, P')) (hf : ¬ P.lists d gone < 0) (hr : ¬ P.room < d + P.lists d gone) : cc = 0 ∧ P' = P.after d gone ver ∧ zs = P.given d gone := by
  unfold PS.commit at hC
  rw [if_neg hf, if_neg (by omega)] at hC
  cases hC
  exact ⟨rfl, rfl, rfl⟩
theorem then_data {S : LS} {n : Nat} (h : S.fit n) (d g : Int) {zs : List Int} (hz : zs = S.P.given d (givesK S.mine g)) :
    (({ S.data with P := S.P.after d (givesK S.mine g) S.ver } : LD).took S.L zs zs.length).gave (givesK S.mine g) (givesK S.mine g).length = (S.then d (givesK S.mine g)).data := by
  subst hz
  have h0 : ∀ x ∈ givesK S.mine g, 0 ≤ x := fun x hx => by
    have := h.rng x ((gone_facts h g).2.2.1 x hx); omega
  unfold LD.took LD.gave LS.data LS.then
  simp only [List.take_length]
  have e1 : nums (stays S.L (S.P.given d (givesK S.mine g)) ++ back (givesK S.mine g) S.ver) = nums (stays S.L (S.P.given d (givesK S.mine g))) ++ givesK S.mine g := by
    have := nums_back (v := S.ver) h0
    unfold nums at this ⊢
    rw [List.map_append, this]
  have e2 : sinces (stays S.L (S.P.given d (givesK S.mine g)) ++ back (givesK S.mine g) S.ver) = sinces (stays S.L (S.P.given d (givesK S.mine g))) ++ List.replicate (givesK S.mine g).length (S.ver : Int) := by
    unfold sinces
    rw [List.map_append]
    congr 1
    unfold back
    rw [List.map_map]
    exact List.map_const'
  rw [e1, e2]
  rfl
theorem looks_of {S : LS} {n : Nat} (h : S.fit n) (d g : Int) {zs us : List Int} {ver : Int} (hz : zs = S.P.given d (givesK S.mine g)) (hu : nums S.P.usable = us) : Looks { S.data with P := S.P.after d (givesK S.mine g) ver } S.L zs us S.P.size := by
  have hG := given_facts h d (givesK S.mine g)
  subst hz
  subst hu
  have hk : S.L.Pairwise fun p q => p.1 ≠ q.1 := (h.perm.pairwise_iff (fun {a b} h e => h e.symm)).2 (h.pool.rise.imp (fun h => by omega))
  refine ⟨rfl, rfl, hk, hG.rise.imp (fun h => by omega), fun i x hi hu => ?_, fun i x hi hu => ?_, hG.lo, hG.far⟩
  · rw [nums_length] at hu
    obtain ⟨h1, q, h2, h3, h4⟩ := hG.old i x hi hu
    refine ⟨h1, q, h2, h3, ?_⟩
    show pinnedK S.P.pins q.2 = false
    unfold pinnedK
    unfold goodP at h4
    rw [List.any_eq_false]
    intro y hy
    have := List.all_eq_true.1 h4 y hy
    simp only [decide_eq_true_eq] at this ⊢
    omega
  · rw [nums_length] at hu ⊢
    exact hG.new i x hi hu
def turnV (t : Turn) : Value := .agg #[.int .i64 t.want, .int .i64 t.give, .int .i64 t.pin, .int .i64 t.unpin]
def Turned (w : World) (own : OwnR) (xb pb m1 m2 n cp : Nat) (e : Ending) (w' : World) : Prop :=
  e = .returned (.bool true) ∧ ∃ (S' : LS) (own' : OwnR) (mv fv sv pv : Value), S'.fit (n + 1) ∧ S'.P.cap = cp ∧ LifeF w' own' xb pb m1 m2 S'.data mv fv sv pv ∧ OStep w own w' own'

set_option maxRecDepth 100000 in
set_option maxHeartbeats 16000000 in
theorem turn_any {w : World} {own : OwnR} {xb pb m1 m2 : Nat} {S : LS} {mv fv sv pv : Value} (h : LifeF w own xb pb m1 m2 S.data mv fv sv pv) {n : Nat} (hf : S.fit n) (hn : n ≤ 1000) (t : Turn) (ht : t.ok) (hw3 : t.want ≤ 3000) :
    Calls Try.prog 13 #[.pointer (some ⟨xb, 0, none⟩), turnV t] w (Turned w own xb pb m1 m2 n S.P.cap) := by
  have HF := Lib.hid h
  have HFit := Lib.hid hf
  have HOk := Lib.hid ht
  have hwb := bounds_i64 ht.want
  have hop := heap_alloc_new w (turnObj t)
  obtain ⟨w0, hw0⟩ : ∃ w0, w0 = w.alloc (turnObj t) := ⟨_, rfl⟩
  obtain ⟨ob, hob⟩ : ∃ ob, ob = w.heap.size := ⟨_, rfl⟩
  rw [← hw0, ← hob] at hop
  have hcw0 : Chg (fun _ => False) w w0 := by rw [hw0]; exact (Chg.refl _ w).alloc _
  have HW0 := Lib.hid hw0
  have HOB := Lib.hid hob
  have HT0 : Hid (TB w0 own ob t) := Lib.hid ⟨hop, by
    cases ho : own ob with
    | none => rfl
    | some r => have := h.lt ob (by rw [ho]; simp); omega⟩
  have HF0 := Lib.hid (h.chg0 hcw0)
  have HS0 := Lib.hid (OStep.of0 own hcw0)
  obtain ⟨_, _, t2, _⟩ := turn_cells HT0.out.blk
  obtain ⟨c, hc⟩ : ∃ c, decide (0 < t.pin) = c := ⟨_, rfl⟩
  have HC := Lib.hid hc
  have hpl : S.P.pins.length < 1000000 := by have := hf.pins; omega
  have hwr : S.P.wr < 1000000 := by have := hf.wr; omega
  have HT2 := Lib.hid t2
  clear h hf ht hw0 hob hop hcw0 hc t2
  unfold turnV
  go_enter Try.func13, Try.ntmps13
  go_upto_region 1 with fail
  change Code.wp Try.prog _ _ _ (w.alloc (turnObj t))
  rw [← HW0.out, ← HOB.out]
  have t2 := HT2.out
  have hcb := HC.out
  go_upto_if 18 with fail
  refine tn_top HF0.out HT0.out HOk.out hpl hwr HC.out ?_
  intro u19 u20 u21 u22 u23 u24 u25 u26 u27 u28 u29 u30 u31 u32 u33 u34 u35 u36 w1 h1
  obtain ⟨own1, pv1, h1, s1⟩ := h1
  obtain ⟨S1, hS1⟩ : ∃ S1, S1 = S.top t := ⟨_, rfl⟩
  have HS1 := Lib.hid hS1
  rw [← hS1] at h1
  have a0 := top_facts HFit.out t
  rw [← hS1] at a0
  have A0 := Lib.hid a0
  have hfit2 := turn_fit HFit.out t
  rw [← hS1] at hfit2
  have HFit2 := Lib.hid hfit2
  have hp1 : S1.P.pins.length ≤ 1001 := by have := a0.2.1; omega
  have hw1 : S1.P.wr ≤ 2001 := by have := a0.2.2.1; omega
  obtain ⟨cb, hcbe⟩ : ∃ cb, decide (t.unpin ∈ S1.P.pins) = cb := ⟨_, rfl⟩
  have HCB := Lib.hid hcbe
  have HHas : Hid (hasK S1.P.pins t.unpin = cb) := Lib.hid ((hasK_eq _ _).trans hcbe)
  have HF1 := Lib.hid h1
  have HT1 := Lib.hid (HT0.out.step s1)
  have ST1 := Lib.hid (HS0.out.trans s1)
  have HFd := Lib.hid (HF1.out.chg0 (Chg.refl (fun _ => False) w1).drew)
  obtain ⟨pa, pc, hpv0, _, _, _⟩ := ownsRow_slice h1.pins
  have hpv : pv1 = .slice pa S1.P.pins.length pc := hpv0
  have x4 : w1.drew.cell? ⟨xb, 4, none⟩ = some (.slice pa S1.P.pins.length pc) := by rw [← hpv]; exact h1.cells.2.2.2.2.1
  have x3 : w1.drew.cell? ⟨ob, 3, none⟩ = some (.int .i64 t.unpin) := (turn_cells HT1.out.blk).2.2.2
  have HSee : Hid (SeesI w1.drew (.slice pa S1.P.pins.length pc) S1.P.pins) := Lib.hid (by rw [← hpv]; exact SeesI.of_row HFd.out.pins)
  have hpl9 : S1.P.pins.length ≤ 9223372036854775807 := by omega
  clear h1 s1 hS1 a0 hfit2 hcbe hpv0 hpv t2 hcb
  go_wp2_with fail
  go_still_tail 6, (by kernel_rfl)
  change wpList _ _ _ _ _ w1.drew
  go_wp2_with fail
  refine (has_any _ _ S1.P.pins HSee.out t.unpin hpl9).mono ?_
  rintro e ww ⟨rfl, rfl⟩
  rw [HHas.out]
  clear x4 x3
  have HFdd := Lib.hid (HFd.out.chg0 (Chg.refl (fun _ => False) w1.drew).drew)
  have y0 := HFdd.out.cells.1
  have hbb : (cb != cb) = false := by simp
  have HTdd : Hid (TB w1.drew.drew own1 ob t) := Lib.hid ((HT1.out.step (OStep.of0 own1 (Chg.refl (fun _ => False) w1).drew)).step (OStep.of0 own1 (Chg.refl (fun _ => False) w1.drew).drew))
  have y3 := (turn_cells HTdd.out.blk).2.2.2
  have z0 : w1.drew.cell? ⟨xb, 0, none⟩ = some (.pointer (some ⟨pb, 0, none⟩)) := y0
  have z3 : w1.drew.cell? ⟨ob, 3, none⟩ = some (.int .i64 t.unpin) := y3
  clear y0 y3
  have hU := unpin_any w1.drew.drew pb m1 m2 S1.P HFdd.out.pool (by omega) (by omega) t.unpin HOk.out.unpin
  rw [HCB.out] at hU
  have HU := Lib.hid hU
  clear hU
  go_wp2_with fail
  go_region_held3 (fun w' => w'.cell? ⟨xb, 0, none⟩ = some (.pointer (some ⟨pb, 0, none⟩)) ∧ w'.cell? ⟨ob, 3, none⟩ = some (.int .i64 t.unpin))
    (first
      | exact kx4
      | go_keep)
    (first
      | (go_simp; go_at_call 25; refine HU.out.mono ?_; rintro e w3 ⟨rfl, h3, c3⟩; have hwk := HFdd.out.work h3 c3 (fun k e => .inr (.inr e)); have HF3 := Lib.hid hwk.1; have ST3 := Lib.hid hwk.2; have HT3 := Lib.hid (HTdd.out.step hwk.2); have kx4 := And.intro hwk.1.cells.1 (turn_cells HT3.out.blk).2.2.2; clear h3 c3 hwk))
  have HTx := Lib.hid HT3.out
  clear kx4 z0 z3 HFd HFdd HSee HTdd
  go_upto_region 7 with fail
  refine tn_unpin HF3.out HT3.out.blk (by show S1.P.pins.length ≤ 1000000; omega) ?_
  intro u53 u54 u55 u56 u57 u58 u59 u60 u61 u62 w4 h4
  obtain ⟨own4, pv4, h4, s4⟩ := h4
  change LifeF w4 own4 xb pb m1 m2 (S1.unpin t.unpin).data mv fv sv pv4 at h4
  obtain ⟨_, _, _, _, _, v5, vf⟩ := h4.cells
  have vf5 := vf 5
  obtain ⟨ver, hver⟩ : ∃ ver, ver = S1.ver := ⟨_, rfl⟩
  have v5' : w4.cell? ⟨xb, 5, none⟩ = some (.int .i64 ver) := by rw [hver]; exact v5
  have hvb : ver ≤ 1000 := by rw [hver, A0.out.2.2.2.1]; have := HFit.out.ver; omega
  obtain ⟨hv1, hv2⟩ := h4.setVer ((S1.ver : Int) + 1)
  obtain ⟨S2, hS2⟩ : ∃ S2, S2 = (S1.unpin t.unpin).next := ⟨_, rfl⟩
  have hF5 : LifeF (w4.setCell ⟨xb, 5, none⟩ (.int .i64 ((ver : Int) + 1))) own4 xb pb m1 m2 S2.data mv fv sv pv4 := by
    rw [hS2, hver]; exact hv1
  have ST1b : Hid (OStep w own w1.drew own1) := Lib.hid (ST1.out.trans (OStep.of0 own1 (Chg.refl (fun _ => False) w1).drew))
  have hS5 : OStep w own (w4.setCell ⟨xb, 5, none⟩ (.int .i64 ((ver : Int) + 1))) own4 := by
    rw [hver]
    exact (((ST1b.out.trans (OStep.of0 own1 (Chg.refl (fun _ => False) w1.drew).drew)).trans ST3.out).trans s4).trans hv2
  have hT5 : TB (w4.setCell ⟨xb, 5, none⟩ (.int .i64 ((ver : Int) + 1))) own4 ob t := by
    rw [hver]
    exact (HT3.out.step s4).step hv2
  have HF5' := Lib.hid hF5
  have HS5' := Lib.hid hS5
  have HT5' := Lib.hid hT5
  have HFit3 : Hid (S2.fit (n + 1)) := Lib.hid (by rw [hS2]; exact HFit2.out)
  have HCp : Hid (S2.P.cap = S.P.cap) := Lib.hid (by rw [hS2]; exact A0.out.2.2.2.2.2.2.2.1)
  clear h4 s4 v5 vf hver hv1 hv2 hS2 hF5 hS5 hT5 HFit2 A0 HF3 HT3 HTx HF1 HT1 HFit
  go_upto_region 9 with fail
  obtain ⟨w5, hw5⟩ : ∃ w5, w5 = w4.setCell ⟨xb, 5, none⟩ (.int .i64 ((ver : Int) + 1)) := ⟨_, rfl⟩
  rw [← hw5]
  have HF5 : Hid (LifeF w5 own4 xb pb m1 m2 S2.data mv fv sv pv4) := Lib.hid (by rw [hw5]; exact HF5'.out)
  have HS5 : Hid (OStep w own w5 own4) := Lib.hid (by rw [hw5]; exact HS5'.out)
  have HT5 : Hid (TB w5 own4 ob t) := Lib.hid (by rw [hw5]; exact HT5'.out)
  clear hw5 HF5' HS5' HT5' v5' vf5 hvb
  have u1 := (turn_cells HT5.out.blk).2.1
  obtain ⟨gone, hgo⟩ : ∃ gone, gone = givesK S2.mine t.give := ⟨_, rfl⟩
  have HGo := Lib.hid hgo
  have hml : S2.mine.length ≤ 1000000 := by have := HFit3.out.sum; have := HFit3.out.size; have := HFit3.out.cap; omega
  have hgl : gone.length ≤ S2.mine.length := by rw [hgo]; exact (gone_facts HFit3.out t.give).2.2.2
  clear hgo
  go_wp2_with fail
  refine (gives_any HF5.out hml t.give).mono ?_
  rintro e w6 ⟨v6, rfl, hN6, hc6⟩
  change NewI w5 w6 v6 (givesK S2.mine t.give) at hN6
  rw [← HGo.out] at hN6
  obtain ⟨a6, k6, rfl⟩ := hN6.slice
  have HK6 := Lib.hid (Kept.of_new HF5.out hN6)
  have HF6 := Lib.hid (HF5.out.chg0 hc6)
  have HT6 := Lib.hid (HT5.out.step (OStep.of0 own4 hc6))
  have HS6 := Lib.hid (HS5.out.trans (OStep.of0 own4 hc6))
  have HSm : Hid S2.P.small := Lib.hid ⟨HFit3.out.pool, by have := HFit3.out.cap; omega, by have := HFit3.out.pins; omega, by have := HFit3.out.wr; omega⟩
  obtain ⟨us, hus⟩ : ∃ us, nums S2.P.usable = us := ⟨_, rfl⟩
  obtain ⟨r, hr⟩ : ∃ r, S2.P.room = r := ⟨_, rfl⟩
  obtain ⟨f, hfe⟩ : ∃ f, S2.P.lists t.want gone = f := ⟨_, rfl⟩
  have hu1 := usable_p (w := w6) (show PoolF w6 pb m1 m2 S2.P from HF6.out.pool) HSm.out hus
  have HU1 := Lib.hid hu1
  have HUS := Lib.hid hus
  have HR := Lib.hid hr
  have HFe := Lib.hid hfe
  have HCo := Lib.hid (count_any w6 pb m1 m2 S2.P HF6.out.pool)
  have g0 := HF6.out.cells.1
  have hgw : Hid (∀ x ∈ gone, (Lit.int .i64 x).wf = true) := Lib.hid (fun x hx => by
    have h1 := (gone_facts HFit3.out t.give).2.2.1 x (by rw [← HGo.out]; exact hx)
    have h2 := HFit3.out.rng x h1
    have h3 := HFit3.out.size
    have h4 := HFit3.out.cap
    exact wfI (by omega) (by omega))
  have hgl6 : gone.length ≤ 1000000 := by omega
  clear hN6 hc6 hu1 hus hr hfe u1 HF5 HT5 HS5
  go_wp2_with (first
    | (go_at_call 20; refine HCo.out.mono ?_; rintro e ww ⟨rfl, rfl⟩)
    | fail)
  refine HU1.out.mono ?_
  rintro e w7 ⟨a7, k7, rfl, hN7, hc7⟩
  have HK7 := Lib.hid (Kept.of_new HF6.out hN7)
  have HF7 := Lib.hid (HF6.out.chg0 hc7)
  have HT7 := Lib.hid (HT6.out.step (OStep.of0 own4 hc7))
  have HS7 := Lib.hid (HS6.out.trans (OStep.of0 own4 hc7))
  have HG7 := Lib.hid (HK6.out.step (OStep.of0 own4 hc7))
  have HR1 := Lib.hid (room_p (w := w7) (show PoolF w7 pb m1 m2 S2.P from HF7.out.pool) HSm.out HR.out)
  have e0 := HF7.out.cells.1
  clear hN7 hc7 g0 HU1 HCo HK6 HF6 HT6 HS6
  go_wp2_with fail
  refine HR1.out.mono ?_
  rintro e w8 ⟨rfl, hc8⟩
  have HK8 := Lib.hid (HK7.out.step (OStep.of0 own4 hc8))
  have HF8 := Lib.hid (HF7.out.chg0 hc8)
  have HT8 := Lib.hid (HT7.out.step (OStep.of0 own4 hc8))
  have HS8 := Lib.hid (HS7.out.trans (OStep.of0 own4 hc8))
  have HG8 := Lib.hid (HG7.out.step (OStep.of0 own4 hc8))
  have hd8 := OStep.of0 own4 (Chg.refl (fun _ => False) w8).drew
  have HF8d := Lib.hid (HF8.out.chg0 (Chg.refl (fun _ => False) w8).drew)
  have HG8d := Lib.hid (HG8.out.step hd8)
  have q0 : w8.drew.cell? ⟨xb, 0, none⟩ = some (.pointer (some ⟨pb, 0, none⟩)) := HF8.out.cells.1
  have q1 : w8.drew.cell? ⟨ob, 0, none⟩ = some (.int .i64 t.want) := (turn_cells HT8.out.blk).1
  have hL := lists_any w8.drew pb m1 m2 S2.P HF8d.out.pool HFit3.out.pool t.want (.slice a6 gone.length k6) gone HG8d.out.sees hgl6 hgw.out
  rw [HFe.out] at hL
  have HL := Lib.hid hL
  clear hc8 e0 HR1 HK7 HF7 HT7 HS7 HG7 hL hd8
  go_wp2_with fail
  go_still_tail 7, (by kernel_rfl)
  change wpList _ _ _ _ _ w8.drew
  go_wp2_with fail
  refine HL.out.mono ?_
  rintro e w9 ⟨rfl, hc9⟩
  have hc89 : Chg (fun _ => False) w8 w9 := ((Chg.refl (fun _ => False) w8).drew).trans hc9 (fun _ f => f.elim)
  have HK9 := Lib.hid (HK8.out.step (OStep.of0 own4 hc89))
  have HF9 := Lib.hid (HF8.out.chg0 hc89)
  have HT9 := Lib.hid (HT8.out.step (OStep.of0 own4 hc89))
  have HS9 := Lib.hid (HS8.out.trans (OStep.of0 own4 hc89))
  have HG9 := Lib.hid (HG8.out.step (OStep.of0 own4 hc89))
  clear q0 q1 hc9 hc89 HK8 HF8 HT8 HS8 HG8 HF8d HG8d HL
  obtain ⟨zs, cc, P', hCm⟩ : ∃ zs cc P', S2.P.commit t.want gone S2.ver = (zs, cc, P') := ⟨_, _, _, rfl⟩
  have HCm := Lib.hid hCm
  have g0 := HF9.out.cells.1
  have g5 := HF9.out.cells.2.2.2.2.2.1
  have g9 := (turn_cells HT9.out.blk).1
  have hg9 : w9.cell? ⟨xb, 5, none⟩ = some (.int .i64 (S2.ver : Int)) := g5
  have hvw : Hid ((Lit.int .i64 (S2.ver : Int)).wf = true) := Lib.hid (wfI (by omega) (by have := HFit3.out.ver; omega))
  have HF9d := Lib.hid (HF9.out.chg0 (Chg.refl (fun _ => False) w9).drew)
  have HG9d := Lib.hid (HG9.out.step (OStep.of0 own4 (Chg.refl (fun _ => False) w9).drew))
  have HCt : Hid (∀ (w : World) (v : Value), PoolF w pb m1 m2 S2.P → SeesI w v gone → (∀ ad n c, v = .slice (some ad) n c → gone ≠ [] → ad.block ≠ pb ∧ ad.block ≠ m1 ∧ ad.block < w.heap.size) → Calls Try.prog 23 #[.pointer (some ⟨pb, 0, none⟩), .int .i64 t.want, v, .int .i64 (S2.ver : Int)] w fun e w' => ∃ a cp, e = .returned (.tuple #[.slice a zs.length cp, .int .i64 cc]) ∧ NewI w w' (.slice a zs.length cp) zs ∧ PoolF w' pb m1 m2 P' ∧ Chg (fun k => k = pb ∨ k = m1) w w') := Lib.hid (fun w v h1 h2 h3 => commit_p h1 HSm.out t.want HOk.out.want h2 hgl6 hgw.out S2.ver hvw.out h3 hCm)
  clear hCm g5
  go_wp2_with fail
  go_region_held3 (fun w' => w'.cell? ⟨xb, 0, none⟩ = some (.pointer (some ⟨pb, 0, none⟩)) ∧ w'.cell? ⟨ob, 0, none⟩ = some (.int .i64 t.want) ∧ w'.cell? ⟨xb, 5, none⟩ = some (.int .i64 (S2.ver : Int)))
    (first
      | exact kx4
      | exact kx5
      | go_keep)
    (first
      | (go_simp; go_at_call 21; refine (ints_any _ _ gone HG9d.out.sees hgl6).mono ?_; rintro e wa ⟨ga, ka, rfl, hNa, hca⟩; have hcA : Chg (fun _ => False) w9 wa := ((Chg.refl (fun _ => False) w9).drew).trans hca (fun _ f => f.elim); have HFa := Lib.hid (HF9.out.chg0 hcA); have HSa := Lib.hid (OStep.of0 own4 hcA); have HKa := Lib.hid (Kept.of_new HF9d.out hNa); have kx4 := And.intro HFa.out.cells.1 (And.intro (turn_cells (HT9.out.step (OStep.of0 own4 hcA)).blk).1 HFa.out.cells.2.2.2.2.2.1); clear hNa hca hcA)
      | (go_simp; go_at_call 23; refine (HCt.out _ _ HFa.out.pool HKa.out.sees (HKa.out.farP HFa.out.r1 HFa.out.r2)).mono ?_; rintro e wb ⟨ab, kb, rfl, hNb, hPb, hcb⟩; have hwk := HFa.out.work hPb hcb (fun k e => e.imp id .inl); have HFb := Lib.hid hwk.1; have HSb := Lib.hid (HSa.out.trans hwk.2); have HLb := Lib.hid (Kept.of_new HFa.out hNb); have kx5 := And.intro hwk.1.cells.1 (And.intro (turn_cells (HT9.out.step HSb.out).blk).1 hwk.1.cells.2.2.2.2.2.1); clear hNb hPb hcb hwk))
  all_goals
    have HTb := Lib.hid (HT9.out.step HSb.out)
    have HUb := Lib.hid (HK9.out.step HSb.out)
    have HGb := Lib.hid (HG9.out.step HSb.out)
    have HSw := Lib.hid (HS9.out.trans HSb.out)
    clear kx4 kx5 g0 hg9 g9 HF9 HF9d HG9 HG9d HT9 HS9 HSa HKa HFa HSb HK9
    have hfb : f ≤ 2000000 := by rw [← HFe.out]; exact lists_le HFit3.out.pool t.want hgl6
    have hrb : -1000000 ≤ r ∧ r ≤ 3000000 := by
      rw [← HR.out]; unfold PS.room
      have := usable_len HFit3.out.pool
      have := HFit3.out.pool.size
      have := HFit3.out.cap
      omega
    have o0 := (turn_cells HTb.out.blk).1
    have x0 := HFb.out.cells.1
    by_cases hfn : f < 0
    · obtain ⟨hwn, hcc, hPP⟩ := commit_a HFit3.out (d := t.want) (g := t.give) (ver := S2.ver) (zs := zs) (cc := cc) (P' := P') (by rw [← HGo.out]; exact HCm.out) (by rw [← HGo.out, HFe.out]; exact hfn)
      subst hcc
      subst hPP
      go_wp2_with (go_at_call 27; refine (num_any _ _).mono ?_; rintro e ww ⟨rfl, rfl⟩)
      go_ret
      exact ⟨rfl, S2, own4, mv, fv, sv, pv4, HFit3.out, HCp.out, HFb.out, HSw.out⟩
    · have hf0 : -1 ≤ f := by omega
      by_cases hrn : r < t.want + f
      · obtain ⟨hcc, hPP⟩ := commit_b HCm.out (by rw [HFe.out]; exact hfn) (by rw [HFe.out, HR.out]; exact hrn)
        subst hcc
        subst hPP
        have HCo := Lib.hid (count_any wb pb m1 m2 S2.P HFb.out.pool)
        have HRo := Lib.hid (room_p (w := wb) (show PoolF wb pb m1 m2 S2.P from HFb.out.pool) HSm.out HR.out)
        have hrr : (r == r) = true := beq_self_eq_true _
        have hcn : ((S2.P.size : Int) == (S2.P.size : Int)) = true := beq_self_eq_true _
        go_wp2_with (first
          | (go_at_call 27; refine (num_any _ _).mono ?_; rintro e ww ⟨rfl, rfl⟩)
          | (go_at_call 20; refine HCo.out.mono ?_; rintro e ww ⟨rfl, rfl⟩)
          | (go_at_call 19; refine HRo.out.mono ?_; rintro e wc ⟨rfl, hcR⟩; have HCR := Lib.hid hcR; clear hcR))
        go_ret
        exact ⟨rfl, S2, own4, mv, fv, sv, pv4, HFit3.out, HCp.out, HFb.out.chg0 HCR.out, HSw.out.trans (OStep.of0 own4 HCR.out)⟩
      · obtain ⟨hcc, hPP, hzs⟩ := commit_c HCm.out (by rw [HFe.out]; exact hfn) (by rw [HFe.out, HR.out]; exact hrn)
        subst hcc
        subst hPP
        have hzl : zs.length = (t.want + f).toNat := by
          rw [hzs, ← giv_given, giv_length]; unfold PS.wants; rw [HFe.out]
        have hw0 : 0 ≤ t.want := (lists_facts (P := S2.P) (d := t.want) (gone := gone) (by rw [HFe.out]; omega)).1
        have hzl2 : (zs.length : Int) = t.want + f := by omega
        have hzb : zs.length ≤ 900000 := by
          have := usable_len HFit3.out.pool
          have := HFit3.out.sum
          have h3 : r ≤ 40000 := by
            rw [← HR.out]; unfold PS.room
            have h4 : S2.P.usable.length ≤ S2.P.free.length := List.length_filter_le _ _
            have h5 := HFit3.out.perm.length_eq
            have h6 := HFit3.out.size
            have h7 := HFit3.out.cap
            omega
          omega
        have hzz : zs = S2.P.given t.want (givesK S2.mine t.give) := by rw [← HGo.out]; exact hzs
        have HLk := Lib.hid (looks_of HFit3.out t.want t.give (ver := S2.ver) hzz HUS.out)
        rw [← HGo.out] at HLk
        have HTd := Lib.hid (then_data HFit3.out t.want t.give hzz)
        rw [← HGo.out] at HTd
        have HFt := Lib.hid (then_fit HFit3.out (d := t.want) (g := t.give) (by omega) (by rw [← HGo.out, HFe.out]; omega) (by rw [← HGo.out, HFe.out, HR.out]; omega))
        rw [← HGo.out] at HFt
        have HEq : Hid ((((S2.then t.want gone).P.size : Int) == (S2.P.size : Int) + max 0 ((zs.length : Int) - (us.length : Int))) = true) := Lib.hid (by
          rw [beq_iff_eq]
          have h1 : (S2.then t.want gone).P.size = S2.P.size + (S2.P.wants t.want gone - S2.P.usable.length) := rfl
          have h2 : zs.length = S2.P.wants t.want gone := by rw [hzs, ← giv_given, giv_length]
          have h3 : us.length = S2.P.usable.length := by rw [← HUS.out, nums_length]
          rw [h1, h2, h3]
          omega)
        have HRl : Hid (riseL zs = true) := Lib.hid ((riseL_iff zs).2 (by rw [hzs]; exact (given_facts HFit3.out t.want gone).rise))
        have hne : ((zs.length : Int) != t.want + f) = false := bne_eq_false_iff_eq.2 hzl2
        have hzb6 : zs.length ≤ 1000000 := by omega
        have hml1 : S2.mine.length + zs.length ≤ 1000000 := by have := HFit3.out.sum; have := HFit3.out.size; have := HFit3.out.cap; omega
        have hLl : S2.L.length ≤ 20000 := by have := HFit3.out.sum; have := HFit3.out.size; have := HFit3.out.cap; omega
        have hpn : S2.P.pins.length ≤ 1000000 := by have := HFit3.out.pins; omega
        have hsz : S2.P.size ≤ 1000000 := by have := HFit3.out.size; have := HFit3.out.cap; omega
        have hul : us.length ≤ 1000000 := by rw [← HUS.out, nums_length]; exact usable_len HFit3.out.pool
        have HZ := Lib.hid hzl2
        clear hzl hzz hzs hzl2
        go_upto_block 0 with (first
          | (go_at_call 27; refine (num_any _ _).mono ?_; rintro e ww ⟨rfl, rfl⟩)
          | (go_at_call 16; refine (riseL_any _ _ zs HLb.out.sees hzb6).mono ?_; rintro e wc ⟨rfl, hcR⟩; rw [HRl.out]; have HCR := Lib.hid hcR; clear hcR))
        have hos := OStep.of0 own4 HCR.out
        refine tn_take (HFb.out.chg0 HCR.out) (HLb.out.step hos) (HUb.out.step hos) HLk.out (by show S2.mine.length + zs.length ≤ 1000000; exact hml1) (by omega) (by show S2.P.pins.length ≤ 1000000; exact hpn) hsz hul ?_
        intro u4 u13 u14 u167 u168 u169 u170 u171 u172 u173 u174 u175 u176 u177 u178 u179 u180 u181 u182 u183 u184 u185 u186 u187 u188 u189 u190 u191 u192 u193 u194 u195 u196 u197 u198 u199 u200 u201 u202 u203 u204 u205 u206 u207 u208 u209 u210 u211 u212 u213 u214 u215 u216 u217 wd hd
        obtain ⟨own5, mv5, fv5, sv5, pv5, hd1, hd2⟩ := hd
        have HFd5 := Lib.hid hd1
        have HSd := Lib.hid (hos.trans hd2)
        have HGd := Lib.hid (HGb.out.step HSd.out)
        clear hd1 hd2 hos o0 x0
        go_upto_block 2 with fail
        have hg2 : gone.length ≤ 20000 := by have := HFit3.out.sum; have := HFit3.out.size; have := HFit3.out.cap; omega
        have hst : (stays S2.L (zs.take zs.length)).length ≤ 20000 := Nat.le_trans (List.length_filter_le _ _) hLl
        refine tn_back HFd5.out HGd.out (by unfold LD.took; simp only [List.length_append, List.length_take]; show S2.mine.length + min zs.length zs.length ≤ 1000000; omega) (by unfold LD.took; simp only [nums_length]; omega) (by unfold LD.took sinces; simp only [List.length_map]; omega) ?_
        intro u15 u218 u219 u220 u221 u222 u223 u224 u225 u226 u227 u228 u229 u230 u231 u232 u233 u234 u235 u236 u237 u238 u239 u240 u241 u242 u243 u244 u245 u246 u247 u248 u249 u250 u251 u252 u253 u254 u255 u256 u257 u258 u259 u260 u261 we he
        obtain ⟨own6, mv6, fv6, sv6, he1, he2⟩ := he
        rw [HTd.out] at he1
        have HF6 := Lib.hid he1
        have HS6 := Lib.hid ((HSw.out.trans HSd.out).trans he2)
        have y0 := he1.cells.1
        have HCt := Lib.hid (count_any we pb m1 m2 (S2.then t.want gone).P he1.pool)
        clear he1 he2 hst
        go_wp2_with (go_at_call 20; refine HCt.out.mono ?_; rintro e ww ⟨rfl, rfl⟩)
        go_ret
        refine ⟨?_, S2.then t.want gone, own6, mv6, fv6, sv6, pv5, HFt.out, HCp.out, HF6.out, HS6.out⟩
        show Ending.returned (Value.bool _) = _
        rw [HEq.out]
end Go.Proofs.Ytipclbibomemjaa
