/- The library's variables; walks: number. -/
import Derived.Test.YteejkkidnohcfaaGreatDoorW2
import Derived.Lib.AtoiErrMem
import Derived.Lib.LaidTab
namespace Go.Proofs.YteejkkidnohcfaaGreatDoor
open Go Go.RowKit Go.Maps Go.Sort

theorem gTab : Tryz.prog.globalNamed "internal/strconv.uint64pow10" = some 3 := by kernel_rfl
/-- The library's variables are as they were laid. -/
structure Env (w : World) : Prop where
  mx : ∃ m, w.cell? ⟨0, 0, none⟩ = some (.int .i64 m)
  tab : Lib.TabIs Tryz.prog w "internal/strconv.uint64pow10" .u64 Lib.pow10Tab
  syn : ∃ ev, w.cell? ⟨1, 0, none⟩ = some ev ∧ (ev = .nilIface ∨ ∃ te pe, ev = .iface te pe)
  rng : ∃ ev, w.cell? ⟨2, 0, none⟩ = some ev ∧ (ev = .nilIface ∨ ∃ te pe, ev = .iface te pe)
theorem Env.lt {w : World} (h : Env w) : 3 < w.heap.size := by
  have ht := h.tab
  unfold Lib.TabIs World.var? at ht
  rw [gTab] at ht
  simp only [Option.bind_some] at ht
  rcases Nat.lt_or_ge 3 w.heap.size with h1 | h1
  · exact h1
  · rw [Array.getElem?_eq_none h1] at ht
    cases ht
theorem Env.chg {w w' : World} {S : Nat → Prop} (h : Env w) (hc : Chg S w w') (hs : ∀ k, S k → 4 ≤ k) : Env w' := by
  obtain ⟨m, h1⟩ := h.mx
  obtain ⟨e2, h2, g2⟩ := h.syn
  obtain ⟨e3, h3, g3⟩ := h.rng
  refine ⟨⟨m, cell_chg hc h1 (fun e => by have := hs _ e; simp at this)⟩, ?_, ⟨e2, cell_chg hc h2 (fun e => by have := hs _ e; simp at this), g2⟩, ⟨e3, cell_chg hc h3 (fun e => by have := hs _ e; simp at this), g3⟩⟩
  have ht := h.tab
  have hb : w'.heap[3]? = w.heap[3]? := hc.block 3 (by have := h.lt; omega) (fun e => by have := hs _ e; omega)
  unfold Lib.TabIs World.var? at ht ⊢
  rw [gTab] at ht ⊢
  simp only [Option.bind_some] at ht ⊢
  rw [hb]
  exact ht
theorem Env.chg0 {w w' : World} (h : Env w) (hc : Chg (fun _ => False) w w') : Env w' := h.chg hc (fun _ f => f.elim)
theorem chg_grow (w : World) (k : Nat) (os : Array Obj) : Chg (fun _ => False) w (grow (w.drewN k) os) :=
  ⟨rfl, rfl, rfl, by show w.heap.size ≤ (w.heap ++ os).size; simp, fun i hi _ => by show (w.heap ++ os)[i]? = _; rw [Array.getElem?_append_left hi]⟩
theorem chg_atoi {w w5 : World} (h : w5 = w ∨ ∃ t, w5 = Lib.bytesWorld w 5 t) : Chg (fun _ => False) w w5 := by
  rcases h with rfl | ⟨t, rfl⟩
  · exact Chg.refl _ _
  · exact chg_below (Lib.bytesWorld_below _ _ _)
theorem itoa_any (w : World) (hE : Env w) (n : Int) (h0 : -9223372036854775808 ≤ n) (h1 : n ≤ 9223372036854775807) :
    Calls Tryz.prog 32 #[.int .i64 n] w fun e w' => e = .returned (.string ⟨(Lib.itoa n).toArray⟩) ∧ Chg (fun _ => False) w w' :=
  (Tryz.strconv_Itoa n h0 h1 w hE.tab).mono fun _ _ ⟨h, k, os, e⟩ => ⟨h, by rw [e]; exact chg_grow _ _ _⟩
theorem cut_any (w : World) (hE : Env w) (s : ByteArray) (c : UInt8) (hs : s.size ≤ 1073741824) :
    Calls Tryz.prog 19 #[.string s, .string ⟨#[c]⟩] w fun e w' => (cutAt c s.data.toList = none ∧ e = .returned (.tuple #[.string s, .string ⟨#[]⟩, .bool false]) ∨ ∃ a b, cutAt c s.data.toList = some (a, b) ∧ e = .returned (.tuple #[.string ⟨a.toArray⟩, .string ⟨b.toArray⟩, .bool true])) ∧ Chg (fun _ => False) w w' := by
  obtain ⟨m, hm⟩ := hE.mx
  refine (Tryz.strings_Cut s ⟨#[c]⟩ m w (by omega) hm).mono ?_
  rintro e w' ⟨rfl, n, rfl⟩
  refine ⟨?_, (Chg.refl _ w).drewN _⟩
  cases hc : cutAt c s.data.toList with
  | none =>
    left
    refine ⟨rfl, ?_⟩
    have := cut_lib_none hc
    rw [show (ByteArray.mk #[c]).data.toList = [c] from rfl, this]
  | some q =>
    obtain ⟨a, b⟩ := q
    right
    refine ⟨a, b, rfl, ?_⟩
    have := cut_lib_some hc
    rw [show (ByteArray.mk #[c]).data.toList = [c] from rfl, this]

/-- What 'number' answers. -/
def numAns (t : Bytes) : Int × Bool := match numB t with | some n => ((n : Int), true) | none => (0, false)
set_option maxRecDepth 100000 in
set_option maxHeartbeats 4000000 in
theorem number_any (w : World) (hE : Env w) (s : ByteArray) (hs : s.size ≤ 1073741824) :
    Calls Tryz.prog 21 #[.string s] w fun e w' => e = .returned (.tuple #[.int .i64 (numAns s.data.toList).1, .bool (numAns s.data.toList).2]) ∧ Chg (fun _ => False) w w' := by
  have HE := Lib.hid hE
  clear hE
  have hst : s.toList = s.data.toList := Lib.toList_data s
  cases hn : numB s.data.toList with
  | some n =>
    obtain ⟨h1, h2⟩ := numB_iff.1 hn
    have HR : Hid (numAns s.data.toList = ((n : Int), true)) := Lib.hid (by unfold numAns; rw [hn])
    have HA : Hid (Lib.atoiAll s.data.toList = .ok (n : Int)) := Lib.hid (by rw [h1]; exact atoi_dec h2)
    have HI : Hid ((⟨(Lib.itoa (n : Int)).toArray⟩ : ByteArray) = s) := Lib.hid (by rw [itoa_lib, ← h1])
    have g1 : ¬ (n : Int) < 0 := by omega
    have g2 : ¬ (2147483647 : Int) < (n : Int) := by omega
    clear hn h1 hst
    go_enter Tryz.func21, Tryz.ntmps21
    go_wp2_with (first
      | (go_at_call 40; refine (Tryz.strconv_Atoi_ok s (by omega) _ HA.out _).mono ?_; rintro e w5 ⟨rfl, hw5⟩; have HC5 := Lib.hid (chg_atoi hw5); clear hw5)
      | (go_at_call 32; refine (itoa_any _ (HE.out.chg0 HC5.out) _ (by omega) (by omega)).mono ?_; rintro e w6 ⟨rfl, hc6⟩; rw [HI.out]; have HC6 := Lib.hid (HC5.out.trans hc6 (fun _ f => f.elim)); clear hc6))
    go_ret2
    exact ⟨by rw [HR.out]; rfl, HC6.out⟩
  | none =>
    have HR : Hid (numAns s.data.toList = (0, false)) := Lib.hid (by unfold numAns; rw [hn])
    cases ha : Lib.atoiAll s.data.toList with
    | range =>
      obtain ⟨ev, hv, hev⟩ := HE.out.rng
      have HV := Lib.hid hv
      have HEV := Lib.hid hev
      have HA := Lib.hid ha
      clear hn ha hv hev hst
      go_enter Tryz.func21, Tryz.ntmps21
      go_wp2_with (go_at_call 40; refine (Tryz.strconv_Atoi_range s (by omega) HA.out ev _ HV.out HEV.out).mono ?_; rintro e w5 ⟨N, rfl, -, -, hb⟩; have HC5 := Lib.hid (chg_below hb); clear hb)
      go_ret2
      exact ⟨by rw [HR.out]; rfl, HC5.out⟩
    | ok v =>
      have hnl := num_lib s.data.toList
      rw [hn] at hnl
      unfold numLib at hnl
      rw [ha] at hnl
      simp only [] at hnl
      have HA := Lib.hid ha
      by_cases h1 : v < 0
      · clear hn ha hnl hst
        go_enter Tryz.func21, Tryz.ntmps21
        go_wp2_with (go_at_call 40; refine (Tryz.strconv_Atoi_ok s (by omega) _ HA.out _).mono ?_; rintro e w5 ⟨rfl, hw5⟩; have HC5 := Lib.hid (chg_atoi hw5); clear hw5)
        go_ret2
        exact ⟨by rw [HR.out]; rfl, HC5.out⟩
      · by_cases h2 : 2147483647 < v
        · clear hn ha hnl hst
          go_enter Tryz.func21, Tryz.ntmps21
          go_wp2_with (go_at_call 40; refine (Tryz.strconv_Atoi_ok s (by omega) _ HA.out _).mono ?_; rintro e w5 ⟨rfl, hw5⟩; have HC5 := Lib.hid (chg_atoi hw5); clear hw5)
          go_ret2
          exact ⟨by rw [HR.out]; rfl, HC5.out⟩
        · have h3 : Lib.itoa v ≠ s.data.toList := by
            intro e
            rw [if_neg (fun h => h.elim h1 (fun h => h.elim h2 (fun h => h e)))] at hnl
            cases hnl
          obtain ⟨q, hq⟩ : ∃ q : ByteArray, q = ⟨(Lib.itoa v).toArray⟩ := ⟨_, rfl⟩
          have g3 : (q.toList == s.toList) = false := by
            rw [beq_eq_false_iff_ne, hst, Lib.toList_data, hq]
            simpa using h3
          have HQ := Lib.hid hq
          clear hn ha hnl hst h3 hq
          go_enter Tryz.func21, Tryz.ntmps21
          go_wp2_with (first
            | (go_at_call 40; refine (Tryz.strconv_Atoi_ok s (by omega) _ HA.out _).mono ?_; rintro e w5 ⟨rfl, hw5⟩; have HC5 := Lib.hid (chg_atoi hw5); clear hw5)
            | (go_at_call 32; refine (itoa_any _ (HE.out.chg0 HC5.out) _ (by omega) (by omega)).mono ?_; rintro e w6 ⟨rfl, hc6⟩; rw [← HQ.out]; have HC6 := Lib.hid (HC5.out.trans hc6 (fun _ f => f.elim)); clear hc6))
          go_ret2
          exact ⟨by rw [HR.out]; rfl, HC6.out⟩
    | _ =>
      obtain ⟨ev, hv, hev⟩ := HE.out.syn
      have HV := Lib.hid hv
      have HEV := Lib.hid hev
      have HA : Hid (isSyn (Lib.atoiAll s.data.toList) = true) := Lib.hid (by rw [ha]; rfl)
      clear hn ha hv hev hst
      go_enter Tryz.func21, Tryz.ntmps21
      go_wp2_with (go_at_call 40; refine (Tryz.strconv_Atoi_syntax s (by omega) HA.out ev _ HV.out HEV.out).mono ?_; rintro e w5 ⟨N, rfl, -, -, hb⟩; have HC5 := Lib.hid (chg_below hb); clear hb)
      go_ret2
      exact ⟨by rw [HR.out]; rfl, HC5.out⟩
end Go.Proofs.YteejkkidnohcfaaGreatDoor
