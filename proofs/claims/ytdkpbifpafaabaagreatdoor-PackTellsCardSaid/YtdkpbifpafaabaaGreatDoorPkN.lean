/- PackMay: the walk (given the fixed calls). -/
import Derived.Test.YtdkpbifpafaabaaGreatDoorPkL
namespace Go.Proofs.YtdkpbifpafaabaaGreatDoor
open Go.RowKit
set_option linter.unusedVariables false
set_option linter.unusedSimpArgs false

theorem AMay.rat20 {a : Ac} (h : AMay a) : a.ratio.num.size ≤ 20 ∧ a.ratio.den.size ≤ 20 := by
  have := h.ratio
  cases hc : arat a.kind with
  | true => rw [hc] at this; exact ⟨(anum_yes this).num, (anum_yes this).den⟩
  | false => rw [hc] at this; rw [anum_no this]; exact ⟨by decide, by decide⟩
/-- What is known of the parts of an action's pack. -/
theorem pof_ptq {a : Ac} (h : amay a = true) (ha : a.asset.size ≤ 9223372036854775807) : ∀ x ∈ pofL a, ptq 1000 x := by
  have o := amay_of h
  intro x hx
  have hn := (pone_of (pofL_pone h x hx)).name
  refine ⟨by have := (isName_size hn).2; omega, ?_⟩
  obtain ⟨r1, r2⟩ := o.rat20
  have e1 : (enc 1).num.size ≤ 1000 ∧ (enc 1).den.size ≤ 1000 := ⟨by decide, by decide⟩
  rcases kinds o with k | k | k | k | k
  · rw [pofL_0 h k, List.mem_singleton] at hx
    subst hx; exact ⟨by dsimp only; omega, by dsimp only; omega⟩
  · rw [pofL_1 h k, List.mem_singleton] at hx
    subst hx
    obtain ⟨q, hq, hq2⟩ := radd_one (o.rat (by omega)).may
    have hs : rsmall 20 q := rsmall_of (by rw [← hq]; exact r1) (by rw [← hq]; exact r2)
    have h1 : rsmall 1 (1 : Rat) := ⟨by show ndg (1 : Int).natAbs ≤ _; rw [show (1 : Int).natAbs = 1 from rfl, ndg_small (by omega)]; omega, by show ndg 1 ≤ _; rw [ndg_small (by omega)]; omega⟩
    have h2 := rsmall_add h1 hs
    rw [hq2]
    refine ⟨?_, ?_⟩
    · show (iS (1 + q).num).size ≤ 1000
      have := iS_sz h2.1; omega
    · show (nS (1 + q).den).size ≤ 1000
      rw [nS_size]; have := h2.2; omega
  · rw [pofL_2 h k, List.mem_singleton] at hx
    subst hx; exact e1
  · rw [pofL_3 h k] at hx
    have hh : x = ⟨a.asset, enc 1⟩ ∨ x = ⟨a.other, a.ratio⟩ := by
      split at hx
      · simpa using hx
      · exact Or.symm (by simpa using hx)
    rcases hh with rfl | rfl
    · exact e1
    · exact ⟨by dsimp only; omega, by dsimp only; omega⟩
  · rw [pofL_4 h k, List.mem_singleton] at hx
    subst hx; exact ⟨by dsimp only; omega, by dsimp only; omega⟩
theorem ptq_mono {j k : Nat} {x : Pt} (h : ptq j x) (hk : j ≤ k) : ptq k x := ⟨h.1, Nat.le_trans h.2.1 hk, Nat.le_trans h.2.2 hk⟩

set_option maxRecDepth 100000 in
set_option maxHeartbeats 2000000 in
theorem l_pmay_no (HF : Fixed16Ok) (a0 : ByteArray) (a1 : Int) (a2 a3 a4 a5 a6 a7 : ByteArray) (a8 a9 a10 : Int) (w : World) (hg : Glob w) (h0 : a0.size ≤ 9223372036854775807) (h2 : a2.size ≤ 9223372036854775807) (h3 : a3.size ≤ 9223372036854775807) (h4 : a4.size ≤ 9223372036854775807) (h5 : a5.size ≤ 9223372036854775807) (h6 : a6.size ≤ 9223372036854775807) (h7 : a7.size ≤ 9223372036854775807) (hm : amay ⟨a0, a1, a2, a3, ⟨a4, a5⟩, ⟨a6, a7⟩, a8, a9, a10⟩ = false) :
    Calls Tryz.prog 5 #[.agg #[.string a0, .int .i64 a1, .string a2, .string a3, .string a4, .string a5, .string a6, .string a7, .int .i64 a8, .int .i64 a9, .int .i64 a10]] w fun e w' => e = .returned (.bool true) ∧ Below w.heap.size w w' := by
  have hF := fun W (h : Below w.heap.size w W) => HF W (hg.below h)
  have hLt := fun W => r15_light a0 a1 a2 a3 a4 a5 a6 a7 a8 a9 a10 W h0 h2 h3 h4 h5 h6 h7
  have hM := fun W (h : a4.size ≤ 30 ∧ a5.size ≤ 30 ∧ a6.size ≤ 30 ∧ a7.size ≤ 30) => r15_may a0 a1 a2 a3 a4 a5 a6 a7 a8 a9 a10 W h0 h2 h3 (by omega) (by omega) (by omega) (by omega)
  rw [hm] at hM
  clear hm
  go_enter Tryz.func5, Tryz.ntmps5
  go_wp2_with (first
    | (go_at_call 16; (with_reducible refine (hF w3 (by repeat (first | exact Below.refl _ _ | assumption | refine b_then ?_ (by assumption) | refine b_alloc ?_ _ | refine b_drewN ?_ _ | refine Below.drew ?_ | refine b_set ?_ (by first | exact Nat.le_refl _ | (simp; done) | (simp; omega) | omega) _))).mono ?_); rintro e w5 ⟨rfl, hb5⟩)
    | (go_at_call 16; (with_reducible refine (hF w2 (by repeat (first | exact Below.refl _ _ | assumption | refine b_then ?_ (by assumption) | refine b_alloc ?_ _ | refine b_drewN ?_ _ | refine Below.drew ?_ | refine b_set ?_ (by first | exact Nat.le_refl _ | (simp; done) | (simp; omega) | omega) _))).mono ?_); rintro e w5 ⟨rfl, hb5⟩)
    | (go_at_call 16; (with_reducible refine (hF _ (by repeat (first | exact Below.refl _ _ | assumption | refine b_then ?_ (by assumption) | refine b_alloc ?_ _ | refine b_drewN ?_ _ | refine Below.drew ?_ | refine b_set ?_ (by first | exact Nat.le_refl _ | (simp; done) | (simp; omega) | omega) _))).mono ?_); rintro e w1 ⟨rfl, hb1⟩; obtain ⟨hc1, hf1⟩ := bcell hb1; have hs1 := hb1.size; (try simp at hs1); have hq1 : w.heap.size < w1.heap.size := (by omega))
    | (go_at_call 13; (with_reducible refine (hLt _).mono ?_); rintro e w2 ⟨b, rfl, hbL, hb2⟩; obtain ⟨hc2, hf2⟩ := bcell hb2; have hs2 := hb2.size; (try simp at hs2); have hq2 : w.heap.size < w2.heap.size := (by omega); have HbL := Lib.hid hbL; clear hbL; cases b)
    | (go_at_call 29; (have hsz := HbL.out (by first | rfl | trivial)); (with_reducible refine (hM _ hsz).mono ?_); rintro e w3 ⟨rfl, hb3⟩; obtain ⟨hc3, hf3⟩ := bcell hb3; have hs3 := hb3.size; (try simp at hs3); have hq3 : w.heap.size < w3.heap.size := (by omega)))
  all_goals
    go_ret
    exact ⟨rfl, (by repeat (first | exact Below.refl _ _ | assumption | refine b_then ?_ (by assumption) | refine b_alloc ?_ _ | refine b_drewN ?_ _ | refine Below.drew ?_ | refine b_set ?_ (by first | exact Nat.le_refl _ | (simp; done) | (simp; omega) | omega) _))⟩
set_option maxRecDepth 100000 in
set_option maxHeartbeats 4000000 in
theorem l_pmay_1 (HF : Fixed16Ok) (a0 a2 a3 a4 a5 a6 a7 : ByteArray) (a8 a9 a10 : Int) (w : World) (hg : Glob w) (h0 : a0.size ≤ 9223372036854775807) (h2 : a2.size ≤ 9223372036854775807) (h3 : a3.size ≤ 9223372036854775807) (h4 : a4.size ≤ 9223372036854775807) (h5 : a5.size ≤ 9223372036854775807) (h6 : a6.size ≤ 9223372036854775807) (h7 : a7.size ≤ 9223372036854775807) (hm : amay ⟨a0, 1, a2, a3, ⟨a4, a5⟩, ⟨a6, a7⟩, a8, a9, a10⟩ = true) :
    Calls Tryz.prog 5 #[.agg #[.string a0, .int .i64 1, .string a2, .string a3, .string a4, .string a5, .string a6, .string a7, .int .i64 a8, .int .i64 a9, .int .i64 a10]] w fun e w' => e = .returned (.bool true) ∧ Below w.heap.size w w' := by
  have hF := fun W (h : Below w.heap.size w W) => HF W (hg.below h)
  have o := amay_of hm
  obtain ⟨s4, s5⟩ := o.rat20
  obtain ⟨s6, s7⟩ := o.cash20
  dsimp only at s4 s5 s6 s7
  have hLt := fun W => r15_light a0 1 a2 a3 a4 a5 a6 a7 a8 a9 a10 W h0 h2 h3 h4 h5 h6 h7
  have hM := fun W => r15_may a0 1 a2 a3 a4 a5 a6 a7 a8 a9 a10 W h0 h2 h3 (by omega) (by omega) (by omega) (by omega)
  rw [hm] at hM
  have hO := fun W (h : Below w.heap.size w W) => (p_of a0 1 a2 a3 a4 a5 a6 a7 a8 a9 a10 W (hg.below h) h0 h2 h3 (by omega) (by omega) (by omega) (by omega)).mono fun e w' he => PackIs.of (m := 1) (c0 := a6) (c1 := a7) he (by rw [pof_len hm]; rfl) (pofC_yes hm)
  have hpm := pof_may hm
  rw [pofC_yes hm] at hpm
  dsimp only at hpm
  have hpk := pof_keeps hm
  dsimp only at hpk
  have hpt := pof_ptq hm h2
  have hK := fun B k W (h : Below w.heap.size w W) (hr : Rd Pt.cs 3 W B 1 (pofL ⟨a0, 1, a2, a3, ⟨a4, a5⟩, ⟨a6, a7⟩, a8, a9, a10⟩)) => p_keeps (c := k) a6 a7 a2 W (hg.below h) hr
  rw [hpk] at hK
  have hPM := fun B k W (h : Below w.heap.size w W) (hr : Rd Pt.cs 3 W B 1 (pofL ⟨a0, 1, a2, a3, ⟨a4, a5⟩, ⟨a6, a7⟩, a8, a9, a10⟩)) => p_pkmay (c := k) a6 a7 W (hg.below h) hr (fun x hx => ptq_mono (hpt x hx) (by omega)) (by omega) (by omega)
  rw [hpm] at hPM
  have hkk : ∀ x : Bool, (decide ((1 : Int) = 2) || (decide ((1 : Int) = 3) || (decide ((1 : Int) = 0) && x))) = false := by intro x; cases x <;> decide
  simp only [hkk] at hK
  clear hkk
  have hOne := fun W => r3_of 1 W (by omega) (by omega)
  rw [enc_one_v] at hOne
  generalize pofL ⟨a0, 1, a2, a3, ⟨a4, a5⟩, ⟨a6, a7⟩, a8, a9, a10⟩ = L at *
  clear hm o hpm hpk hpt
  go_enter Tryz.func5, Tryz.ntmps5
  have bx0 : Blk (w.alloc (.cells #[.string a0, .int .i64 1, .string a2, .string a3, .string a4, .string a5, .string a6, .string a7, .int .i64 a8, .int .i64 a9, .int .i64 a10] 25)) w.heap.size 25 #[.string a0, .int .i64 1, .string a2, .string a3, .string a4, .string a5, .string a6, .string a7, .int .i64 a8, .int .i64 a9, .int .i64 a10] := Blk.new w _ _
  have BX := Lib.hid bx0
  clear bx0
  go_wp2_with (first
    | (go_at_call 16; (with_reducible refine (hF w3 (by repeat (first | exact Below.refl _ _ | assumption | refine b_then ?_ (by assumption) | refine b_alloc ?_ _ | refine b_drewN ?_ _ | refine Below.drew ?_ | refine b_set ?_ (by first | exact Nat.le_refl _ | (simp; done) | (simp; omega) | omega) _))).mono ?_); rintro e w5 ⟨rfl, hb5⟩)
    | (go_at_call 16; (with_reducible refine (hF w2 (by repeat (first | exact Below.refl _ _ | assumption | refine b_then ?_ (by assumption) | refine b_alloc ?_ _ | refine b_drewN ?_ _ | refine Below.drew ?_ | refine b_set ?_ (by first | exact Nat.le_refl _ | (simp; done) | (simp; omega) | omega) _))).mono ?_); rintro e w5 ⟨rfl, hb5⟩)
    | (go_at_call 16; (with_reducible refine (hF _ (by repeat (first | exact Below.refl _ _ | assumption | refine b_then ?_ (by assumption) | refine b_alloc ?_ _ | refine b_drewN ?_ _ | refine Below.drew ?_ | refine b_set ?_ (by first | exact Nat.le_refl _ | (simp; done) | (simp; omega) | omega) _))).mono ?_); rintro e w1 ⟨rfl, hb1⟩; obtain ⟨hc1, hf1⟩ := bcell hb1; have hs1 := hb1.size; (try simp at hs1); have hq1 : w.heap.size < w1.heap.size := (by omega))
    | (go_at_call 13; (with_reducible refine (hLt _).mono ?_); rintro e w2 ⟨b, rfl, hbL, hb2⟩; obtain ⟨hc2, hf2⟩ := bcell hb2; have hs2 := hb2.size; (try simp at hs2); have hq2 : w.heap.size < w2.heap.size := (by omega); have HbL := Lib.hid hbL; clear hbL; cases b)
    | (go_at_call 29; (with_reducible refine (hM _).mono ?_); rintro e w3 ⟨rfl, hb3⟩; obtain ⟨hc3, hf3⟩ := bcell hb3; have hs3 := hb3.size; (try simp at hs3); have hq3 : w.heap.size < w3.heap.size := (by omega))
    | (go_at_call 20; (with_reducible refine (hO _ (by repeat (first | exact Below.refl _ _ | assumption | refine b_then ?_ (by assumption) | refine b_alloc ?_ _ | refine b_drewN ?_ _ | refine Below.drew ?_ | refine b_set ?_ (by first | exact Nat.le_refl _ | (simp; done) | (simp; omega) | omega) _))).mono ?_); rintro e w4 ⟨B, k, rfl, hR, hb4⟩; revert hR hb4))
  · go_ret
    exact ⟨rfl, (by repeat (first | exact Below.refl _ _ | assumption | refine b_then ?_ (by assumption) | refine b_alloc ?_ _ | refine b_drewN ?_ _ | refine Below.drew ?_ | refine b_set ?_ (by first | exact Nat.le_refl _ | (simp; done) | (simp; omega) | omega) _))⟩
  · intro hR hb4
    have hB4 : Below w.heap.size w w4 := (by repeat (first | exact Below.refl _ _ | assumption | refine b_then ?_ (by assumption) | refine b_alloc ?_ _ | refine b_drewN ?_ _ | refine Below.drew ?_ | refine b_set ?_ (by first | exact Nat.le_refl _ | (simp; done) | (simp; omega) | omega) _))
    have b4 := (((BX.out.below hb1).below hb2).below hb3).below hb4
    clear hb1 hb2 hb3 hb4 hc1 hf1 hs1 hq1 hc2 hf2 hs2 hq2 hc3 hf3 hs3 hq3 HbL BX hM hO hF hLt
    have hl4 := b4.lt
    go_wp2
    refine hide3 (K := fun W' => _) (fun W' => Below w.heap.size w W' ∧ Rd Pt.cs 3 W' B 1 L ∧ Blk W' w.heap.size 25 #[.string a0, .int .i64 1, .string a2, .string a3, .string a4, .string a5, .string a6, .string a7, .int .i64 a8, .int .i64 a9, .int .i64 a10] ∧ Blk W' w4.heap.size 28 #[.slice B 1 k, .string a6, .string a7]) ⟨b_alloc hB4 _, hR.below (b_alloc (Below.refl _ _) _), b4.alloc _, Blk.new _ _ _⟩ ?_
    rintro Y ⟨hBY, RY, bY, PY⟩
    clear hB4 hR b4
    have kY : ∀ W, Below Y.heap.size Y W → Calls Tryz.prog 24 #[.agg #[.slice B 1 k, .string a6, .string a7], .string a2] W fun e w' => e = .returned (.bool false) ∧ Below W.heap.size W w' := fun W h => hK B k W (b_then hBY h) (RY.below h)
    have mY : ∀ W, Below Y.heap.size Y W → Calls Tryz.prog 22 #[.agg #[.slice B 1 k, .string a6, .string a7]] W fun e w' => e = .returned (.bool true) ∧ Below W.heap.size W w' := fun W h => hPM B k W (b_then hBY h) (RY.below h)
    have c1 := fun (y : After Y) => (bY.below y.h).cell 1
    have c2 := fun (y : After Y) => (bY.below y.h).cell 2
    have c4 := fun (y : After Y) => (bY.below y.h).cell 4
    have c5 := fun (y : After Y) => (bY.below y.h).cell 5
    simp at c1 c2 c4 c5
    have heq := eqRat

    clear hK hPM
    (refine wp_region_after (by kernel_rfl) (by kernel_rfl) ?_; (repeat (first | go_big_quiet_skip | (go_big_quiet_want; go_big_quiet_op; first | go_big_quiet_on | (apply Exists.intro; refine ⟨fun _ => ?_, ?_⟩; (focus ((go_at_call 28; with_reducible exact Calls.after (hOne _)))); go_big_quiet_on)))); refine wpQuiet_nil ?_; rintro w6 ⟨⟨_, hb6⟩, rfl⟩; (try dsimp only); obtain ⟨hc6, hf6⟩ := bcell hb6; have hs6 := hb6.size; (try simp at hs6))
    have bz := bY.below hb6
    have pz := PY.below hb6
    have d1 := bz.cell 1
    have d2 := bz.cell 2
    have e0 := pz.cell 0
    have e1 := pz.cell 1
    have e2 := pz.cell 2
    simp at d1 d2 e0 e1 e2
    have hlz := bz.lt
    have hlp := pz.lt
    have BZ := Lib.hid bz
    have PZ := Lib.hid pz
    clear c1 c2 c4 c5 bY PY RY bz pz hc6 hf6 hs6
    go_wp2_with (first
      | (go_at_call 22; (with_reducible refine (mY _ hb6).mono ?_); rintro e w7 ⟨rfl, hb7⟩; have c2 := (BZ.out.below hb7).cell 2; have c1 := (BZ.out.below hb7).cell 1; have g0 := (PZ.out.below hb7).cell 0; have g1 := (PZ.out.below hb7).cell 1; have g2 := (PZ.out.below hb7).cell 2; simp at c1 c2 g0 g1 g2)
      | (go_at_call 24; (with_reducible refine (kY _ (b_then hb6 hb7)).mono ?_); rintro e w8 ⟨rfl, hb8⟩; have u1 := ((BZ.out.below hb7).below hb8).cell 1; have u0 := ((PZ.out.below hb7).below hb8).cell 0; simp at u0 u1))
    go_ret
    exact ⟨rfl, b_then (b_then (b_then hBY hb6) hb7) hb8⟩
set_option maxRecDepth 100000 in
set_option maxHeartbeats 4000000 in
theorem l_pmay_2 (HF : Fixed16Ok) (a0 a2 a3 a4 a5 a6 a7 : ByteArray) (a8 a9 a10 : Int) (w : World) (hg : Glob w) (h0 : a0.size ≤ 9223372036854775807) (h2 : a2.size ≤ 9223372036854775807) (h3 : a3.size ≤ 9223372036854775807) (h4 : a4.size ≤ 9223372036854775807) (h5 : a5.size ≤ 9223372036854775807) (h6 : a6.size ≤ 9223372036854775807) (h7 : a7.size ≤ 9223372036854775807) (hm : amay ⟨a0, 2, a2, a3, ⟨a4, a5⟩, ⟨a6, a7⟩, a8, a9, a10⟩ = true) :
    Calls Tryz.prog 5 #[.agg #[.string a0, .int .i64 2, .string a2, .string a3, .string a4, .string a5, .string a6, .string a7, .int .i64 a8, .int .i64 a9, .int .i64 a10]] w fun e w' => e = .returned (.bool true) ∧ Below w.heap.size w w' := by
  have hF := fun W (h : Below w.heap.size w W) => HF W (hg.below h)
  have o := amay_of hm
  obtain ⟨s4, s5⟩ := o.rat20
  obtain ⟨s6, s7⟩ := o.cash20
  dsimp only at s4 s5 s6 s7
  have hLt := fun W => r15_light a0 2 a2 a3 a4 a5 a6 a7 a8 a9 a10 W h0 h2 h3 h4 h5 h6 h7
  have hM := fun W => r15_may a0 2 a2 a3 a4 a5 a6 a7 a8 a9 a10 W h0 h2 h3 (by omega) (by omega) (by omega) (by omega)
  rw [hm] at hM
  have hO := fun W (h : Below w.heap.size w W) => (p_of a0 2 a2 a3 a4 a5 a6 a7 a8 a9 a10 W (hg.below h) h0 h2 h3 (by omega) (by omega) (by omega) (by omega)).mono fun e w' he => PackIs.of (m := 1) (c0 := a6) (c1 := a7) he (by rw [pof_len hm]; rfl) (pofC_yes hm)
  have hpm := pof_may hm
  rw [pofC_yes hm] at hpm
  dsimp only at hpm
  have hpk := pof_keeps hm
  dsimp only at hpk
  have hpt := pof_ptq hm h2
  have hK := fun B k W (h : Below w.heap.size w W) (hr : Rd Pt.cs 3 W B 1 (pofL ⟨a0, 2, a2, a3, ⟨a4, a5⟩, ⟨a6, a7⟩, a8, a9, a10⟩)) => p_keeps (c := k) a6 a7 a2 W (hg.below h) hr
  rw [hpk] at hK
  have hPM := fun B k W (h : Below w.heap.size w W) (hr : Rd Pt.cs 3 W B 1 (pofL ⟨a0, 2, a2, a3, ⟨a4, a5⟩, ⟨a6, a7⟩, a8, a9, a10⟩)) => p_pkmay (c := k) a6 a7 W (hg.below h) hr (fun x hx => ptq_mono (hpt x hx) (by omega)) (by omega) (by omega)
  rw [hpm] at hPM
  have hkk : ∀ x : Bool, (decide ((2 : Int) = 2) || (decide ((2 : Int) = 3) || (decide ((2 : Int) = 0) && x))) = true := by intro x; cases x <;> decide
  simp only [hkk] at hK
  clear hkk
  have hOne := fun W => r3_of 1 W (by omega) (by omega)
  rw [enc_one_v] at hOne
  generalize pofL ⟨a0, 2, a2, a3, ⟨a4, a5⟩, ⟨a6, a7⟩, a8, a9, a10⟩ = L at *
  clear hm o hpm hpk hpt
  go_enter Tryz.func5, Tryz.ntmps5
  have bx0 : Blk (w.alloc (.cells #[.string a0, .int .i64 2, .string a2, .string a3, .string a4, .string a5, .string a6, .string a7, .int .i64 a8, .int .i64 a9, .int .i64 a10] 25)) w.heap.size 25 #[.string a0, .int .i64 2, .string a2, .string a3, .string a4, .string a5, .string a6, .string a7, .int .i64 a8, .int .i64 a9, .int .i64 a10] := Blk.new w _ _
  have BX := Lib.hid bx0
  clear bx0
  go_wp2_with (first
    | (go_at_call 16; (with_reducible refine (hF w3 (by repeat (first | exact Below.refl _ _ | assumption | refine b_then ?_ (by assumption) | refine b_alloc ?_ _ | refine b_drewN ?_ _ | refine Below.drew ?_ | refine b_set ?_ (by first | exact Nat.le_refl _ | (simp; done) | (simp; omega) | omega) _))).mono ?_); rintro e w5 ⟨rfl, hb5⟩)
    | (go_at_call 16; (with_reducible refine (hF w2 (by repeat (first | exact Below.refl _ _ | assumption | refine b_then ?_ (by assumption) | refine b_alloc ?_ _ | refine b_drewN ?_ _ | refine Below.drew ?_ | refine b_set ?_ (by first | exact Nat.le_refl _ | (simp; done) | (simp; omega) | omega) _))).mono ?_); rintro e w5 ⟨rfl, hb5⟩)
    | (go_at_call 16; (with_reducible refine (hF _ (by repeat (first | exact Below.refl _ _ | assumption | refine b_then ?_ (by assumption) | refine b_alloc ?_ _ | refine b_drewN ?_ _ | refine Below.drew ?_ | refine b_set ?_ (by first | exact Nat.le_refl _ | (simp; done) | (simp; omega) | omega) _))).mono ?_); rintro e w1 ⟨rfl, hb1⟩; obtain ⟨hc1, hf1⟩ := bcell hb1; have hs1 := hb1.size; (try simp at hs1); have hq1 : w.heap.size < w1.heap.size := (by omega))
    | (go_at_call 13; (with_reducible refine (hLt _).mono ?_); rintro e w2 ⟨b, rfl, hbL, hb2⟩; obtain ⟨hc2, hf2⟩ := bcell hb2; have hs2 := hb2.size; (try simp at hs2); have hq2 : w.heap.size < w2.heap.size := (by omega); have HbL := Lib.hid hbL; clear hbL; cases b)
    | (go_at_call 29; (with_reducible refine (hM _).mono ?_); rintro e w3 ⟨rfl, hb3⟩; obtain ⟨hc3, hf3⟩ := bcell hb3; have hs3 := hb3.size; (try simp at hs3); have hq3 : w.heap.size < w3.heap.size := (by omega))
    | (go_at_call 20; (with_reducible refine (hO _ (by repeat (first | exact Below.refl _ _ | assumption | refine b_then ?_ (by assumption) | refine b_alloc ?_ _ | refine b_drewN ?_ _ | refine Below.drew ?_ | refine b_set ?_ (by first | exact Nat.le_refl _ | (simp; done) | (simp; omega) | omega) _))).mono ?_); rintro e w4 ⟨B, k, rfl, hR, hb4⟩; revert hR hb4))
  · go_ret
    exact ⟨rfl, (by repeat (first | exact Below.refl _ _ | assumption | refine b_then ?_ (by assumption) | refine b_alloc ?_ _ | refine b_drewN ?_ _ | refine Below.drew ?_ | refine b_set ?_ (by first | exact Nat.le_refl _ | (simp; done) | (simp; omega) | omega) _))⟩
  · intro hR hb4
    have hB4 : Below w.heap.size w w4 := (by repeat (first | exact Below.refl _ _ | assumption | refine b_then ?_ (by assumption) | refine b_alloc ?_ _ | refine b_drewN ?_ _ | refine Below.drew ?_ | refine b_set ?_ (by first | exact Nat.le_refl _ | (simp; done) | (simp; omega) | omega) _))
    have b4 := (((BX.out.below hb1).below hb2).below hb3).below hb4
    clear hb1 hb2 hb3 hb4 hc1 hf1 hs1 hq1 hc2 hf2 hs2 hq2 hc3 hf3 hs3 hq3 HbL BX hM hO hF hLt
    have hl4 := b4.lt
    go_wp2
    refine hide3 (K := fun W' => _) (fun W' => Below w.heap.size w W' ∧ Rd Pt.cs 3 W' B 1 L ∧ Blk W' w.heap.size 25 #[.string a0, .int .i64 2, .string a2, .string a3, .string a4, .string a5, .string a6, .string a7, .int .i64 a8, .int .i64 a9, .int .i64 a10] ∧ Blk W' w4.heap.size 28 #[.slice B 1 k, .string a6, .string a7]) ⟨b_alloc hB4 _, hR.below (b_alloc (Below.refl _ _) _), b4.alloc _, Blk.new _ _ _⟩ ?_
    rintro Y ⟨hBY, RY, bY, PY⟩
    clear hB4 hR b4
    have kY : ∀ W, Below Y.heap.size Y W → Calls Tryz.prog 24 #[.agg #[.slice B 1 k, .string a6, .string a7], .string a2] W fun e w' => e = .returned (.bool true) ∧ Below W.heap.size W w' := fun W h => hK B k W (b_then hBY h) (RY.below h)
    have mY : ∀ W, Below Y.heap.size Y W → Calls Tryz.prog 22 #[.agg #[.slice B 1 k, .string a6, .string a7]] W fun e w' => e = .returned (.bool true) ∧ Below W.heap.size W w' := fun W h => hPM B k W (b_then hBY h) (RY.below h)
    have c1 := fun (y : After Y) => (bY.below y.h).cell 1
    have c2 := fun (y : After Y) => (bY.below y.h).cell 2
    have c4 := fun (y : After Y) => (bY.below y.h).cell 4
    have c5 := fun (y : After Y) => (bY.below y.h).cell 5
    simp at c1 c2 c4 c5
    have heq := eqRat

    clear hK hPM
    (refine wp_region_after (by kernel_rfl) (by kernel_rfl) ?_; (repeat (first | go_big_quiet_skip | (go_big_quiet_want; go_big_quiet_op; first | go_big_quiet_on | (apply Exists.intro; refine ⟨fun _ => ?_, ?_⟩; (focus ((go_at_call 28; with_reducible exact Calls.after (hOne _)))); go_big_quiet_on)))); refine wpQuiet_nil ?_; rintro w6 ⟨⟨_, hb6⟩, rfl⟩; (try dsimp only); obtain ⟨hc6, hf6⟩ := bcell hb6; have hs6 := hb6.size; (try simp at hs6))
    have bz := bY.below hb6
    have pz := PY.below hb6
    have d1 := bz.cell 1
    have d2 := bz.cell 2
    have e0 := pz.cell 0
    have e1 := pz.cell 1
    have e2 := pz.cell 2
    simp at d1 d2 e0 e1 e2
    have hlz := bz.lt
    have hlp := pz.lt
    have BZ := Lib.hid bz
    have PZ := Lib.hid pz
    clear c1 c2 c4 c5 bY PY RY bz pz hc6 hf6 hs6
    go_wp2_with (first
      | (go_at_call 22; (with_reducible refine (mY _ hb6).mono ?_); rintro e w7 ⟨rfl, hb7⟩; have c2 := (BZ.out.below hb7).cell 2; have c1 := (BZ.out.below hb7).cell 1; have g0 := (PZ.out.below hb7).cell 0; have g1 := (PZ.out.below hb7).cell 1; have g2 := (PZ.out.below hb7).cell 2; simp at c1 c2 g0 g1 g2)
      | (go_at_call 24; (with_reducible refine (kY _ (b_then hb6 hb7)).mono ?_); rintro e w8 ⟨rfl, hb8⟩; have u1 := ((BZ.out.below hb7).below hb8).cell 1; have u0 := ((PZ.out.below hb7).below hb8).cell 0; simp at u0 u1))
    go_ret
    exact ⟨rfl, b_then (b_then (b_then hBY hb6) hb7) hb8⟩
set_option maxRecDepth 100000 in
set_option maxHeartbeats 4000000 in
theorem l_pmay_3 (HF : Fixed16Ok) (a0 a2 a3 a4 a5 a6 a7 : ByteArray) (a8 a9 a10 : Int) (w : World) (hg : Glob w) (h0 : a0.size ≤ 9223372036854775807) (h2 : a2.size ≤ 9223372036854775807) (h3 : a3.size ≤ 9223372036854775807) (h4 : a4.size ≤ 9223372036854775807) (h5 : a5.size ≤ 9223372036854775807) (h6 : a6.size ≤ 9223372036854775807) (h7 : a7.size ≤ 9223372036854775807) (hm : amay ⟨a0, 3, a2, a3, ⟨a4, a5⟩, ⟨a6, a7⟩, a8, a9, a10⟩ = true) :
    Calls Tryz.prog 5 #[.agg #[.string a0, .int .i64 3, .string a2, .string a3, .string a4, .string a5, .string a6, .string a7, .int .i64 a8, .int .i64 a9, .int .i64 a10]] w fun e w' => e = .returned (.bool true) ∧ Below w.heap.size w w' := by
  have hF := fun W (h : Below w.heap.size w W) => HF W (hg.below h)
  have o := amay_of hm
  obtain ⟨s4, s5⟩ := o.rat20
  obtain ⟨s6, s7⟩ := o.cash20
  dsimp only at s4 s5 s6 s7
  have hLt := fun W => r15_light a0 3 a2 a3 a4 a5 a6 a7 a8 a9 a10 W h0 h2 h3 h4 h5 h6 h7
  have hM := fun W => r15_may a0 3 a2 a3 a4 a5 a6 a7 a8 a9 a10 W h0 h2 h3 (by omega) (by omega) (by omega) (by omega)
  rw [hm] at hM
  have hO := fun W (h : Below w.heap.size w W) => (p_of a0 3 a2 a3 a4 a5 a6 a7 a8 a9 a10 W (hg.below h) h0 h2 h3 (by omega) (by omega) (by omega) (by omega)).mono fun e w' he => PackIs.of (m := 2) (c0 := a6) (c1 := a7) he (by rw [pof_len hm]; rfl) (pofC_yes hm)
  have hpm := pof_may hm
  rw [pofC_yes hm] at hpm
  dsimp only at hpm
  have hpk := pof_keeps hm
  dsimp only at hpk
  have hpt := pof_ptq hm h2
  have hK := fun B k W (h : Below w.heap.size w W) (hr : Rd Pt.cs 3 W B 2 (pofL ⟨a0, 3, a2, a3, ⟨a4, a5⟩, ⟨a6, a7⟩, a8, a9, a10⟩)) => p_keeps (c := k) a6 a7 a2 W (hg.below h) hr
  rw [hpk] at hK
  have hPM := fun B k W (h : Below w.heap.size w W) (hr : Rd Pt.cs 3 W B 2 (pofL ⟨a0, 3, a2, a3, ⟨a4, a5⟩, ⟨a6, a7⟩, a8, a9, a10⟩)) => p_pkmay (c := k) a6 a7 W (hg.below h) hr (fun x hx => ptq_mono (hpt x hx) (by omega)) (by omega) (by omega)
  rw [hpm] at hPM
  have hkk : ∀ x : Bool, (decide ((3 : Int) = 2) || (decide ((3 : Int) = 3) || (decide ((3 : Int) = 0) && x))) = true := by intro x; cases x <;> decide
  simp only [hkk] at hK
  clear hkk
  have hOne := fun W => r3_of 1 W (by omega) (by omega)
  rw [enc_one_v] at hOne
  generalize pofL ⟨a0, 3, a2, a3, ⟨a4, a5⟩, ⟨a6, a7⟩, a8, a9, a10⟩ = L at *
  clear hm o hpm hpk hpt
  go_enter Tryz.func5, Tryz.ntmps5
  have bx0 : Blk (w.alloc (.cells #[.string a0, .int .i64 3, .string a2, .string a3, .string a4, .string a5, .string a6, .string a7, .int .i64 a8, .int .i64 a9, .int .i64 a10] 25)) w.heap.size 25 #[.string a0, .int .i64 3, .string a2, .string a3, .string a4, .string a5, .string a6, .string a7, .int .i64 a8, .int .i64 a9, .int .i64 a10] := Blk.new w _ _
  have BX := Lib.hid bx0
  clear bx0
  go_wp2_with (first
    | (go_at_call 16; (with_reducible refine (hF w3 (by repeat (first | exact Below.refl _ _ | assumption | refine b_then ?_ (by assumption) | refine b_alloc ?_ _ | refine b_drewN ?_ _ | refine Below.drew ?_ | refine b_set ?_ (by first | exact Nat.le_refl _ | (simp; done) | (simp; omega) | omega) _))).mono ?_); rintro e w5 ⟨rfl, hb5⟩)
    | (go_at_call 16; (with_reducible refine (hF w2 (by repeat (first | exact Below.refl _ _ | assumption | refine b_then ?_ (by assumption) | refine b_alloc ?_ _ | refine b_drewN ?_ _ | refine Below.drew ?_ | refine b_set ?_ (by first | exact Nat.le_refl _ | (simp; done) | (simp; omega) | omega) _))).mono ?_); rintro e w5 ⟨rfl, hb5⟩)
    | (go_at_call 16; (with_reducible refine (hF _ (by repeat (first | exact Below.refl _ _ | assumption | refine b_then ?_ (by assumption) | refine b_alloc ?_ _ | refine b_drewN ?_ _ | refine Below.drew ?_ | refine b_set ?_ (by first | exact Nat.le_refl _ | (simp; done) | (simp; omega) | omega) _))).mono ?_); rintro e w1 ⟨rfl, hb1⟩; obtain ⟨hc1, hf1⟩ := bcell hb1; have hs1 := hb1.size; (try simp at hs1); have hq1 : w.heap.size < w1.heap.size := (by omega))
    | (go_at_call 13; (with_reducible refine (hLt _).mono ?_); rintro e w2 ⟨b, rfl, hbL, hb2⟩; obtain ⟨hc2, hf2⟩ := bcell hb2; have hs2 := hb2.size; (try simp at hs2); have hq2 : w.heap.size < w2.heap.size := (by omega); have HbL := Lib.hid hbL; clear hbL; cases b)
    | (go_at_call 29; (with_reducible refine (hM _).mono ?_); rintro e w3 ⟨rfl, hb3⟩; obtain ⟨hc3, hf3⟩ := bcell hb3; have hs3 := hb3.size; (try simp at hs3); have hq3 : w.heap.size < w3.heap.size := (by omega))
    | (go_at_call 20; (with_reducible refine (hO _ (by repeat (first | exact Below.refl _ _ | assumption | refine b_then ?_ (by assumption) | refine b_alloc ?_ _ | refine b_drewN ?_ _ | refine Below.drew ?_ | refine b_set ?_ (by first | exact Nat.le_refl _ | (simp; done) | (simp; omega) | omega) _))).mono ?_); rintro e w4 ⟨B, k, rfl, hR, hb4⟩; revert hR hb4))
  · go_ret
    exact ⟨rfl, (by repeat (first | exact Below.refl _ _ | assumption | refine b_then ?_ (by assumption) | refine b_alloc ?_ _ | refine b_drewN ?_ _ | refine Below.drew ?_ | refine b_set ?_ (by first | exact Nat.le_refl _ | (simp; done) | (simp; omega) | omega) _))⟩
  · intro hR hb4
    have hB4 : Below w.heap.size w w4 := (by repeat (first | exact Below.refl _ _ | assumption | refine b_then ?_ (by assumption) | refine b_alloc ?_ _ | refine b_drewN ?_ _ | refine Below.drew ?_ | refine b_set ?_ (by first | exact Nat.le_refl _ | (simp; done) | (simp; omega) | omega) _))
    have b4 := (((BX.out.below hb1).below hb2).below hb3).below hb4
    clear hb1 hb2 hb3 hb4 hc1 hf1 hs1 hq1 hc2 hf2 hs2 hq2 hc3 hf3 hs3 hq3 HbL BX hM hO hF hLt
    have hl4 := b4.lt
    go_wp2
    refine hide3 (K := fun W' => _) (fun W' => Below w.heap.size w W' ∧ Rd Pt.cs 3 W' B 2 L ∧ Blk W' w.heap.size 25 #[.string a0, .int .i64 3, .string a2, .string a3, .string a4, .string a5, .string a6, .string a7, .int .i64 a8, .int .i64 a9, .int .i64 a10] ∧ Blk W' w4.heap.size 28 #[.slice B 2 k, .string a6, .string a7]) ⟨b_alloc hB4 _, hR.below (b_alloc (Below.refl _ _) _), b4.alloc _, Blk.new _ _ _⟩ ?_
    rintro Y ⟨hBY, RY, bY, PY⟩
    clear hB4 hR b4
    have kY : ∀ W, Below Y.heap.size Y W → Calls Tryz.prog 24 #[.agg #[.slice B 2 k, .string a6, .string a7], .string a2] W fun e w' => e = .returned (.bool true) ∧ Below W.heap.size W w' := fun W h => hK B k W (b_then hBY h) (RY.below h)
    have mY : ∀ W, Below Y.heap.size Y W → Calls Tryz.prog 22 #[.agg #[.slice B 2 k, .string a6, .string a7]] W fun e w' => e = .returned (.bool true) ∧ Below W.heap.size W w' := fun W h => hPM B k W (b_then hBY h) (RY.below h)
    have c1 := fun (y : After Y) => (bY.below y.h).cell 1
    have c2 := fun (y : After Y) => (bY.below y.h).cell 2
    have c4 := fun (y : After Y) => (bY.below y.h).cell 4
    have c5 := fun (y : After Y) => (bY.below y.h).cell 5
    simp at c1 c2 c4 c5
    have heq := eqRat

    clear hK hPM
    (refine wp_region_after (by kernel_rfl) (by kernel_rfl) ?_; (repeat (first | go_big_quiet_skip | (go_big_quiet_want; go_big_quiet_op; first | go_big_quiet_on | (apply Exists.intro; refine ⟨fun _ => ?_, ?_⟩; (focus ((go_at_call 28; with_reducible exact Calls.after (hOne _)))); go_big_quiet_on)))); refine wpQuiet_nil ?_; rintro w6 ⟨⟨_, hb6⟩, rfl⟩; (try dsimp only); obtain ⟨hc6, hf6⟩ := bcell hb6; have hs6 := hb6.size; (try simp at hs6))
    have bz := bY.below hb6
    have pz := PY.below hb6
    have d1 := bz.cell 1
    have d2 := bz.cell 2
    have e0 := pz.cell 0
    have e1 := pz.cell 1
    have e2 := pz.cell 2
    simp at d1 d2 e0 e1 e2
    have hlz := bz.lt
    have hlp := pz.lt
    have BZ := Lib.hid bz
    have PZ := Lib.hid pz
    clear c1 c2 c4 c5 bY PY RY bz pz hc6 hf6 hs6
    go_wp2_with (first
      | (go_at_call 22; (with_reducible refine (mY _ hb6).mono ?_); rintro e w7 ⟨rfl, hb7⟩; have c2 := (BZ.out.below hb7).cell 2; have c1 := (BZ.out.below hb7).cell 1; have g0 := (PZ.out.below hb7).cell 0; have g1 := (PZ.out.below hb7).cell 1; have g2 := (PZ.out.below hb7).cell 2; simp at c1 c2 g0 g1 g2)
      | (go_at_call 24; (with_reducible refine (kY _ (b_then hb6 hb7)).mono ?_); rintro e w8 ⟨rfl, hb8⟩; have u1 := ((BZ.out.below hb7).below hb8).cell 1; have u0 := ((PZ.out.below hb7).below hb8).cell 0; simp at u0 u1))
    go_ret
    exact ⟨rfl, b_then (b_then (b_then hBY hb6) hb7) hb8⟩
set_option maxRecDepth 100000 in
set_option maxHeartbeats 4000000 in
theorem l_pmay_4 (HF : Fixed16Ok) (a0 a2 a3 a4 a5 a6 a7 : ByteArray) (a8 a9 a10 : Int) (w : World) (hg : Glob w) (h0 : a0.size ≤ 9223372036854775807) (h2 : a2.size ≤ 9223372036854775807) (h3 : a3.size ≤ 9223372036854775807) (h4 : a4.size ≤ 9223372036854775807) (h5 : a5.size ≤ 9223372036854775807) (h6 : a6.size ≤ 9223372036854775807) (h7 : a7.size ≤ 9223372036854775807) (hm : amay ⟨a0, 4, a2, a3, ⟨a4, a5⟩, ⟨a6, a7⟩, a8, a9, a10⟩ = true) :
    Calls Tryz.prog 5 #[.agg #[.string a0, .int .i64 4, .string a2, .string a3, .string a4, .string a5, .string a6, .string a7, .int .i64 a8, .int .i64 a9, .int .i64 a10]] w fun e w' => e = .returned (.bool true) ∧ Below w.heap.size w w' := by
  have hF := fun W (h : Below w.heap.size w W) => HF W (hg.below h)
  have o := amay_of hm
  obtain ⟨s4, s5⟩ := o.rat20
  obtain ⟨s6, s7⟩ := o.cash20
  dsimp only at s4 s5 s6 s7
  have hLt := fun W => r15_light a0 4 a2 a3 a4 a5 a6 a7 a8 a9 a10 W h0 h2 h3 h4 h5 h6 h7
  have hM := fun W => r15_may a0 4 a2 a3 a4 a5 a6 a7 a8 a9 a10 W h0 h2 h3 (by omega) (by omega) (by omega) (by omega)
  rw [hm] at hM
  have hO := fun W (h : Below w.heap.size w W) => (p_of a0 4 a2 a3 a4 a5 a6 a7 a8 a9 a10 W (hg.below h) h0 h2 h3 (by omega) (by omega) (by omega) (by omega)).mono fun e w' he => PackIs.of (m := 1) (c0 := a6) (c1 := a7) he (by rw [pof_len hm]; rfl) (pofC_yes hm)
  have hpm := pof_may hm
  rw [pofC_yes hm] at hpm
  dsimp only at hpm
  have hpk := pof_keeps hm
  dsimp only at hpk
  have hpt := pof_ptq hm h2
  have hK := fun B k W (h : Below w.heap.size w W) (hr : Rd Pt.cs 3 W B 1 (pofL ⟨a0, 4, a2, a3, ⟨a4, a5⟩, ⟨a6, a7⟩, a8, a9, a10⟩)) => p_keeps (c := k) a6 a7 a2 W (hg.below h) hr
  rw [hpk] at hK
  have hPM := fun B k W (h : Below w.heap.size w W) (hr : Rd Pt.cs 3 W B 1 (pofL ⟨a0, 4, a2, a3, ⟨a4, a5⟩, ⟨a6, a7⟩, a8, a9, a10⟩)) => p_pkmay (c := k) a6 a7 W (hg.below h) hr (fun x hx => ptq_mono (hpt x hx) (by omega)) (by omega) (by omega)
  rw [hpm] at hPM
  have hkk : ∀ x : Bool, (decide ((4 : Int) = 2) || (decide ((4 : Int) = 3) || (decide ((4 : Int) = 0) && x))) = false := by intro x; cases x <;> decide
  simp only [hkk] at hK
  clear hkk
  have hOne := fun W => r3_of 1 W (by omega) (by omega)
  rw [enc_one_v] at hOne
  generalize pofL ⟨a0, 4, a2, a3, ⟨a4, a5⟩, ⟨a6, a7⟩, a8, a9, a10⟩ = L at *
  clear hm o hpm hpk hpt
  go_enter Tryz.func5, Tryz.ntmps5
  have bx0 : Blk (w.alloc (.cells #[.string a0, .int .i64 4, .string a2, .string a3, .string a4, .string a5, .string a6, .string a7, .int .i64 a8, .int .i64 a9, .int .i64 a10] 25)) w.heap.size 25 #[.string a0, .int .i64 4, .string a2, .string a3, .string a4, .string a5, .string a6, .string a7, .int .i64 a8, .int .i64 a9, .int .i64 a10] := Blk.new w _ _
  have BX := Lib.hid bx0
  clear bx0
  go_wp2_with (first
    | (go_at_call 16; (with_reducible refine (hF w3 (by repeat (first | exact Below.refl _ _ | assumption | refine b_then ?_ (by assumption) | refine b_alloc ?_ _ | refine b_drewN ?_ _ | refine Below.drew ?_ | refine b_set ?_ (by first | exact Nat.le_refl _ | (simp; done) | (simp; omega) | omega) _))).mono ?_); rintro e w5 ⟨rfl, hb5⟩)
    | (go_at_call 16; (with_reducible refine (hF w2 (by repeat (first | exact Below.refl _ _ | assumption | refine b_then ?_ (by assumption) | refine b_alloc ?_ _ | refine b_drewN ?_ _ | refine Below.drew ?_ | refine b_set ?_ (by first | exact Nat.le_refl _ | (simp; done) | (simp; omega) | omega) _))).mono ?_); rintro e w5 ⟨rfl, hb5⟩)
    | (go_at_call 16; (with_reducible refine (hF _ (by repeat (first | exact Below.refl _ _ | assumption | refine b_then ?_ (by assumption) | refine b_alloc ?_ _ | refine b_drewN ?_ _ | refine Below.drew ?_ | refine b_set ?_ (by first | exact Nat.le_refl _ | (simp; done) | (simp; omega) | omega) _))).mono ?_); rintro e w1 ⟨rfl, hb1⟩; obtain ⟨hc1, hf1⟩ := bcell hb1; have hs1 := hb1.size; (try simp at hs1); have hq1 : w.heap.size < w1.heap.size := (by omega))
    | (go_at_call 13; (with_reducible refine (hLt _).mono ?_); rintro e w2 ⟨b, rfl, hbL, hb2⟩; obtain ⟨hc2, hf2⟩ := bcell hb2; have hs2 := hb2.size; (try simp at hs2); have hq2 : w.heap.size < w2.heap.size := (by omega); have HbL := Lib.hid hbL; clear hbL; cases b)
    | (go_at_call 29; (with_reducible refine (hM _).mono ?_); rintro e w3 ⟨rfl, hb3⟩; obtain ⟨hc3, hf3⟩ := bcell hb3; have hs3 := hb3.size; (try simp at hs3); have hq3 : w.heap.size < w3.heap.size := (by omega))
    | (go_at_call 20; (with_reducible refine (hO _ (by repeat (first | exact Below.refl _ _ | assumption | refine b_then ?_ (by assumption) | refine b_alloc ?_ _ | refine b_drewN ?_ _ | refine Below.drew ?_ | refine b_set ?_ (by first | exact Nat.le_refl _ | (simp; done) | (simp; omega) | omega) _))).mono ?_); rintro e w4 ⟨B, k, rfl, hR, hb4⟩; revert hR hb4))
  · go_ret
    exact ⟨rfl, (by repeat (first | exact Below.refl _ _ | assumption | refine b_then ?_ (by assumption) | refine b_alloc ?_ _ | refine b_drewN ?_ _ | refine Below.drew ?_ | refine b_set ?_ (by first | exact Nat.le_refl _ | (simp; done) | (simp; omega) | omega) _))⟩
  · intro hR hb4
    have hB4 : Below w.heap.size w w4 := (by repeat (first | exact Below.refl _ _ | assumption | refine b_then ?_ (by assumption) | refine b_alloc ?_ _ | refine b_drewN ?_ _ | refine Below.drew ?_ | refine b_set ?_ (by first | exact Nat.le_refl _ | (simp; done) | (simp; omega) | omega) _))
    have b4 := (((BX.out.below hb1).below hb2).below hb3).below hb4
    clear hb1 hb2 hb3 hb4 hc1 hf1 hs1 hq1 hc2 hf2 hs2 hq2 hc3 hf3 hs3 hq3 HbL BX hM hO hF hLt
    have hl4 := b4.lt
    go_wp2
    refine hide3 (K := fun W' => _) (fun W' => Below w.heap.size w W' ∧ Rd Pt.cs 3 W' B 1 L ∧ Blk W' w.heap.size 25 #[.string a0, .int .i64 4, .string a2, .string a3, .string a4, .string a5, .string a6, .string a7, .int .i64 a8, .int .i64 a9, .int .i64 a10] ∧ Blk W' w4.heap.size 28 #[.slice B 1 k, .string a6, .string a7]) ⟨b_alloc hB4 _, hR.below (b_alloc (Below.refl _ _) _), b4.alloc _, Blk.new _ _ _⟩ ?_
    rintro Y ⟨hBY, RY, bY, PY⟩
    clear hB4 hR b4
    have kY : ∀ W, Below Y.heap.size Y W → Calls Tryz.prog 24 #[.agg #[.slice B 1 k, .string a6, .string a7], .string a2] W fun e w' => e = .returned (.bool false) ∧ Below W.heap.size W w' := fun W h => hK B k W (b_then hBY h) (RY.below h)
    have mY : ∀ W, Below Y.heap.size Y W → Calls Tryz.prog 22 #[.agg #[.slice B 1 k, .string a6, .string a7]] W fun e w' => e = .returned (.bool true) ∧ Below W.heap.size W w' := fun W h => hPM B k W (b_then hBY h) (RY.below h)
    have c1 := fun (y : After Y) => (bY.below y.h).cell 1
    have c2 := fun (y : After Y) => (bY.below y.h).cell 2
    have c4 := fun (y : After Y) => (bY.below y.h).cell 4
    have c5 := fun (y : After Y) => (bY.below y.h).cell 5
    simp at c1 c2 c4 c5
    have heq := eqRat

    clear hK hPM
    (refine wp_region_after (by kernel_rfl) (by kernel_rfl) ?_; (repeat (first | go_big_quiet_skip | (go_big_quiet_want; go_big_quiet_op; first | go_big_quiet_on | (apply Exists.intro; refine ⟨fun _ => ?_, ?_⟩; (focus ((go_at_call 28; with_reducible exact Calls.after (hOne _)))); go_big_quiet_on)))); refine wpQuiet_nil ?_; rintro w6 ⟨⟨_, hb6⟩, rfl⟩; (try dsimp only); obtain ⟨hc6, hf6⟩ := bcell hb6; have hs6 := hb6.size; (try simp at hs6))
    have bz := bY.below hb6
    have pz := PY.below hb6
    have d1 := bz.cell 1
    have d2 := bz.cell 2
    have e0 := pz.cell 0
    have e1 := pz.cell 1
    have e2 := pz.cell 2
    simp at d1 d2 e0 e1 e2
    have hlz := bz.lt
    have hlp := pz.lt
    have BZ := Lib.hid bz
    have PZ := Lib.hid pz
    clear c1 c2 c4 c5 bY PY RY bz pz hc6 hf6 hs6
    go_wp2_with (first
      | (go_at_call 22; (with_reducible refine (mY _ hb6).mono ?_); rintro e w7 ⟨rfl, hb7⟩; have c2 := (BZ.out.below hb7).cell 2; have c1 := (BZ.out.below hb7).cell 1; have g0 := (PZ.out.below hb7).cell 0; have g1 := (PZ.out.below hb7).cell 1; have g2 := (PZ.out.below hb7).cell 2; simp at c1 c2 g0 g1 g2)
      | (go_at_call 24; (with_reducible refine (kY _ (b_then hb6 hb7)).mono ?_); rintro e w8 ⟨rfl, hb8⟩; have u1 := ((BZ.out.below hb7).below hb8).cell 1; have u0 := ((PZ.out.below hb7).below hb8).cell 0; simp at u0 u1))
    go_ret
    exact ⟨rfl, b_then (b_then (b_then hBY hb6) hb7) hb8⟩
set_option maxRecDepth 100000 in
set_option maxHeartbeats 4000000 in
theorem l_pmay_0y (HF : Fixed16Ok) (a0 a2 a3 a4 a5 a6 a7 : ByteArray) (a8 a9 a10 : Int) (w : World) (hg : Glob w) (h0 : a0.size ≤ 9223372036854775807) (h2 : a2.size ≤ 9223372036854775807) (h3 : a3.size ≤ 9223372036854775807) (h4 : a4.size ≤ 9223372036854775807) (h5 : a5.size ≤ 9223372036854775807) (h6 : a6.size ≤ 9223372036854775807) (h7 : a7.size ≤ 9223372036854775807) (hm : amay ⟨a0, 0, a2, a3, ⟨a4, a5⟩, ⟨a6, a7⟩, a8, a9, a10⟩ = true) (hr : decide ((⟨a4, a5⟩ : RT) = enc 1) = true) :
    Calls Tryz.prog 5 #[.agg #[.string a0, .int .i64 0, .string a2, .string a3, .string a4, .string a5, .string a6, .string a7, .int .i64 a8, .int .i64 a9, .int .i64 a10]] w fun e w' => e = .returned (.bool true) ∧ Below w.heap.size w w' := by
  have hF := fun W (h : Below w.heap.size w W) => HF W (hg.below h)
  have o := amay_of hm
  obtain ⟨s4, s5⟩ := o.rat20
  obtain ⟨s6, s7⟩ := o.cash20
  dsimp only at s4 s5 s6 s7
  have hLt := fun W => r15_light a0 0 a2 a3 a4 a5 a6 a7 a8 a9 a10 W h0 h2 h3 h4 h5 h6 h7
  have hM := fun W => r15_may a0 0 a2 a3 a4 a5 a6 a7 a8 a9 a10 W h0 h2 h3 (by omega) (by omega) (by omega) (by omega)
  rw [hm] at hM
  have hO := fun W (h : Below w.heap.size w W) => (p_of a0 0 a2 a3 a4 a5 a6 a7 a8 a9 a10 W (hg.below h) h0 h2 h3 (by omega) (by omega) (by omega) (by omega)).mono fun e w' he => PackIs.of (m := 1) (c0 := a6) (c1 := a7) he (by rw [pof_len hm]; rfl) (pofC_yes hm)
  have hpm := pof_may hm
  rw [pofC_yes hm] at hpm
  dsimp only at hpm
  have hpk := pof_keeps hm
  dsimp only at hpk
  have hpt := pof_ptq hm h2
  have hK := fun B k W (h : Below w.heap.size w W) (hr : Rd Pt.cs 3 W B 1 (pofL ⟨a0, 0, a2, a3, ⟨a4, a5⟩, ⟨a6, a7⟩, a8, a9, a10⟩)) => p_keeps (c := k) a6 a7 a2 W (hg.below h) hr
  rw [hpk] at hK
  have hPM := fun B k W (h : Below w.heap.size w W) (hr : Rd Pt.cs 3 W B 1 (pofL ⟨a0, 0, a2, a3, ⟨a4, a5⟩, ⟨a6, a7⟩, a8, a9, a10⟩)) => p_pkmay (c := k) a6 a7 W (hg.below h) hr (fun x hx => ptq_mono (hpt x hx) (by omega)) (by omega) (by omega)
  rw [hpm] at hPM
  have hkk : (decide ((0 : Int) = 2) || (decide ((0 : Int) = 3) || (decide ((0 : Int) = 0) && decide ((⟨a4, a5⟩ : RT) = enc 1)))) = true := by rw [hr]; rfl
  rw [hkk] at hK
  clear hkk
  have hrt := rt_one ⟨a4, a5⟩
  rw [hr] at hrt
  dsimp only at hrt
  have hOne := fun W => r3_of 1 W (by omega) (by omega)
  rw [enc_one_v] at hOne
  generalize pofL ⟨a0, 0, a2, a3, ⟨a4, a5⟩, ⟨a6, a7⟩, a8, a9, a10⟩ = L at *
  clear hm o hpm hpk hpt
  go_enter Tryz.func5, Tryz.ntmps5
  have bx0 : Blk (w.alloc (.cells #[.string a0, .int .i64 0, .string a2, .string a3, .string a4, .string a5, .string a6, .string a7, .int .i64 a8, .int .i64 a9, .int .i64 a10] 25)) w.heap.size 25 #[.string a0, .int .i64 0, .string a2, .string a3, .string a4, .string a5, .string a6, .string a7, .int .i64 a8, .int .i64 a9, .int .i64 a10] := Blk.new w _ _
  have BX := Lib.hid bx0
  clear bx0
  go_wp2_with (first
    | (go_at_call 16; (with_reducible refine (hF w3 (by repeat (first | exact Below.refl _ _ | assumption | refine b_then ?_ (by assumption) | refine b_alloc ?_ _ | refine b_drewN ?_ _ | refine Below.drew ?_ | refine b_set ?_ (by first | exact Nat.le_refl _ | (simp; done) | (simp; omega) | omega) _))).mono ?_); rintro e w5 ⟨rfl, hb5⟩)
    | (go_at_call 16; (with_reducible refine (hF w2 (by repeat (first | exact Below.refl _ _ | assumption | refine b_then ?_ (by assumption) | refine b_alloc ?_ _ | refine b_drewN ?_ _ | refine Below.drew ?_ | refine b_set ?_ (by first | exact Nat.le_refl _ | (simp; done) | (simp; omega) | omega) _))).mono ?_); rintro e w5 ⟨rfl, hb5⟩)
    | (go_at_call 16; (with_reducible refine (hF _ (by repeat (first | exact Below.refl _ _ | assumption | refine b_then ?_ (by assumption) | refine b_alloc ?_ _ | refine b_drewN ?_ _ | refine Below.drew ?_ | refine b_set ?_ (by first | exact Nat.le_refl _ | (simp; done) | (simp; omega) | omega) _))).mono ?_); rintro e w1 ⟨rfl, hb1⟩; obtain ⟨hc1, hf1⟩ := bcell hb1; have hs1 := hb1.size; (try simp at hs1); have hq1 : w.heap.size < w1.heap.size := (by omega))
    | (go_at_call 13; (with_reducible refine (hLt _).mono ?_); rintro e w2 ⟨b, rfl, hbL, hb2⟩; obtain ⟨hc2, hf2⟩ := bcell hb2; have hs2 := hb2.size; (try simp at hs2); have hq2 : w.heap.size < w2.heap.size := (by omega); have HbL := Lib.hid hbL; clear hbL; cases b)
    | (go_at_call 29; (with_reducible refine (hM _).mono ?_); rintro e w3 ⟨rfl, hb3⟩; obtain ⟨hc3, hf3⟩ := bcell hb3; have hs3 := hb3.size; (try simp at hs3); have hq3 : w.heap.size < w3.heap.size := (by omega))
    | (go_at_call 20; (with_reducible refine (hO _ (by repeat (first | exact Below.refl _ _ | assumption | refine b_then ?_ (by assumption) | refine b_alloc ?_ _ | refine b_drewN ?_ _ | refine Below.drew ?_ | refine b_set ?_ (by first | exact Nat.le_refl _ | (simp; done) | (simp; omega) | omega) _))).mono ?_); rintro e w4 ⟨B, k, rfl, hR, hb4⟩; revert hR hb4))
  · go_ret
    exact ⟨rfl, (by repeat (first | exact Below.refl _ _ | assumption | refine b_then ?_ (by assumption) | refine b_alloc ?_ _ | refine b_drewN ?_ _ | refine Below.drew ?_ | refine b_set ?_ (by first | exact Nat.le_refl _ | (simp; done) | (simp; omega) | omega) _))⟩
  · intro hR hb4
    have hB4 : Below w.heap.size w w4 := (by repeat (first | exact Below.refl _ _ | assumption | refine b_then ?_ (by assumption) | refine b_alloc ?_ _ | refine b_drewN ?_ _ | refine Below.drew ?_ | refine b_set ?_ (by first | exact Nat.le_refl _ | (simp; done) | (simp; omega) | omega) _))
    have b4 := (((BX.out.below hb1).below hb2).below hb3).below hb4
    clear hb1 hb2 hb3 hb4 hc1 hf1 hs1 hq1 hc2 hf2 hs2 hq2 hc3 hf3 hs3 hq3 HbL BX hM hO hF hLt
    have hl4 := b4.lt
    go_wp2
    refine hide3 (K := fun W' => _) (fun W' => Below w.heap.size w W' ∧ Rd Pt.cs 3 W' B 1 L ∧ Blk W' w.heap.size 25 #[.string a0, .int .i64 0, .string a2, .string a3, .string a4, .string a5, .string a6, .string a7, .int .i64 a8, .int .i64 a9, .int .i64 a10] ∧ Blk W' w4.heap.size 28 #[.slice B 1 k, .string a6, .string a7]) ⟨b_alloc hB4 _, hR.below (b_alloc (Below.refl _ _) _), b4.alloc _, Blk.new _ _ _⟩ ?_
    rintro Y ⟨hBY, RY, bY, PY⟩
    clear hB4 hR b4
    have kY : ∀ W, Below Y.heap.size Y W → Calls Tryz.prog 24 #[.agg #[.slice B 1 k, .string a6, .string a7], .string a2] W fun e w' => e = .returned (.bool true) ∧ Below W.heap.size W w' := fun W h => hK B k W (b_then hBY h) (RY.below h)
    have mY : ∀ W, Below Y.heap.size Y W → Calls Tryz.prog 22 #[.agg #[.slice B 1 k, .string a6, .string a7]] W fun e w' => e = .returned (.bool true) ∧ Below W.heap.size W w' := fun W h => hPM B k W (b_then hBY h) (RY.below h)
    have c1 := fun (y : After Y) => (bY.below y.h).cell 1
    have c2 := fun (y : After Y) => (bY.below y.h).cell 2
    have c4 := fun (y : After Y) => (bY.below y.h).cell 4
    have c5 := fun (y : After Y) => (bY.below y.h).cell 5
    simp at c1 c2 c4 c5
    have heq := eqRat

    clear hK hPM
    (refine wp_region_after (by kernel_rfl) (by kernel_rfl) ?_; (repeat (first | go_big_quiet_skip | (go_big_quiet_want; go_big_quiet_op; first | go_big_quiet_on | (apply Exists.intro; refine ⟨fun _ => ?_, ?_⟩; (focus ((go_at_call 28; with_reducible exact Calls.after (hOne _)))); go_big_quiet_on)))); refine wpQuiet_nil ?_; rintro w6 ⟨⟨_, hb6⟩, rfl⟩; (try dsimp only); obtain ⟨hc6, hf6⟩ := bcell hb6; have hs6 := hb6.size; (try simp at hs6))
    have bz := bY.below hb6
    have pz := PY.below hb6
    have d1 := bz.cell 1
    have d2 := bz.cell 2
    have e0 := pz.cell 0
    have e1 := pz.cell 1
    have e2 := pz.cell 2
    simp at d1 d2 e0 e1 e2
    have hlz := bz.lt
    have hlp := pz.lt
    have BZ := Lib.hid bz
    have PZ := Lib.hid pz
    clear c1 c2 c4 c5 bY PY RY bz pz hc6 hf6 hs6
    go_wp2_with (first
      | (go_at_call 22; (with_reducible refine (mY _ hb6).mono ?_); rintro e w7 ⟨rfl, hb7⟩; have c2 := (BZ.out.below hb7).cell 2; have c1 := (BZ.out.below hb7).cell 1; have g0 := (PZ.out.below hb7).cell 0; have g1 := (PZ.out.below hb7).cell 1; have g2 := (PZ.out.below hb7).cell 2; simp at c1 c2 g0 g1 g2)
      | (go_at_call 24; (with_reducible refine (kY _ (b_then hb6 hb7)).mono ?_); rintro e w8 ⟨rfl, hb8⟩; have u1 := ((BZ.out.below hb7).below hb8).cell 1; have u0 := ((PZ.out.below hb7).below hb8).cell 0; simp at u0 u1))
    go_ret
    exact ⟨rfl, b_then (b_then (b_then hBY hb6) hb7) hb8⟩
set_option maxRecDepth 100000 in
set_option maxHeartbeats 4000000 in
theorem l_pmay_0n (HF : Fixed16Ok) (a0 a2 a3 a4 a5 a6 a7 : ByteArray) (a8 a9 a10 : Int) (w : World) (hg : Glob w) (h0 : a0.size ≤ 9223372036854775807) (h2 : a2.size ≤ 9223372036854775807) (h3 : a3.size ≤ 9223372036854775807) (h4 : a4.size ≤ 9223372036854775807) (h5 : a5.size ≤ 9223372036854775807) (h6 : a6.size ≤ 9223372036854775807) (h7 : a7.size ≤ 9223372036854775807) (hm : amay ⟨a0, 0, a2, a3, ⟨a4, a5⟩, ⟨a6, a7⟩, a8, a9, a10⟩ = true) (hr : decide ((⟨a4, a5⟩ : RT) = enc 1) = false) :
    Calls Tryz.prog 5 #[.agg #[.string a0, .int .i64 0, .string a2, .string a3, .string a4, .string a5, .string a6, .string a7, .int .i64 a8, .int .i64 a9, .int .i64 a10]] w fun e w' => e = .returned (.bool true) ∧ Below w.heap.size w w' := by
  have hF := fun W (h : Below w.heap.size w W) => HF W (hg.below h)
  have o := amay_of hm
  obtain ⟨s4, s5⟩ := o.rat20
  obtain ⟨s6, s7⟩ := o.cash20
  dsimp only at s4 s5 s6 s7
  have hLt := fun W => r15_light a0 0 a2 a3 a4 a5 a6 a7 a8 a9 a10 W h0 h2 h3 h4 h5 h6 h7
  have hM := fun W => r15_may a0 0 a2 a3 a4 a5 a6 a7 a8 a9 a10 W h0 h2 h3 (by omega) (by omega) (by omega) (by omega)
  rw [hm] at hM
  have hO := fun W (h : Below w.heap.size w W) => (p_of a0 0 a2 a3 a4 a5 a6 a7 a8 a9 a10 W (hg.below h) h0 h2 h3 (by omega) (by omega) (by omega) (by omega)).mono fun e w' he => PackIs.of (m := 1) (c0 := a6) (c1 := a7) he (by rw [pof_len hm]; rfl) (pofC_yes hm)
  have hpm := pof_may hm
  rw [pofC_yes hm] at hpm
  dsimp only at hpm
  have hpk := pof_keeps hm
  dsimp only at hpk
  have hpt := pof_ptq hm h2
  have hK := fun B k W (h : Below w.heap.size w W) (hr : Rd Pt.cs 3 W B 1 (pofL ⟨a0, 0, a2, a3, ⟨a4, a5⟩, ⟨a6, a7⟩, a8, a9, a10⟩)) => p_keeps (c := k) a6 a7 a2 W (hg.below h) hr
  rw [hpk] at hK
  have hPM := fun B k W (h : Below w.heap.size w W) (hr : Rd Pt.cs 3 W B 1 (pofL ⟨a0, 0, a2, a3, ⟨a4, a5⟩, ⟨a6, a7⟩, a8, a9, a10⟩)) => p_pkmay (c := k) a6 a7 W (hg.below h) hr (fun x hx => ptq_mono (hpt x hx) (by omega)) (by omega) (by omega)
  rw [hpm] at hPM
  have hkk : (decide ((0 : Int) = 2) || (decide ((0 : Int) = 3) || (decide ((0 : Int) = 0) && decide ((⟨a4, a5⟩ : RT) = enc 1)))) = false := by rw [hr]; rfl
  rw [hkk] at hK
  clear hkk
  have hrt := rt_one ⟨a4, a5⟩
  rw [hr] at hrt
  dsimp only at hrt
  have hOne := fun W => r3_of 1 W (by omega) (by omega)
  rw [enc_one_v] at hOne
  generalize pofL ⟨a0, 0, a2, a3, ⟨a4, a5⟩, ⟨a6, a7⟩, a8, a9, a10⟩ = L at *
  clear hm o hpm hpk hpt
  go_enter Tryz.func5, Tryz.ntmps5
  have bx0 : Blk (w.alloc (.cells #[.string a0, .int .i64 0, .string a2, .string a3, .string a4, .string a5, .string a6, .string a7, .int .i64 a8, .int .i64 a9, .int .i64 a10] 25)) w.heap.size 25 #[.string a0, .int .i64 0, .string a2, .string a3, .string a4, .string a5, .string a6, .string a7, .int .i64 a8, .int .i64 a9, .int .i64 a10] := Blk.new w _ _
  have BX := Lib.hid bx0
  clear bx0
  go_wp2_with (first
    | (go_at_call 16; (with_reducible refine (hF w3 (by repeat (first | exact Below.refl _ _ | assumption | refine b_then ?_ (by assumption) | refine b_alloc ?_ _ | refine b_drewN ?_ _ | refine Below.drew ?_ | refine b_set ?_ (by first | exact Nat.le_refl _ | (simp; done) | (simp; omega) | omega) _))).mono ?_); rintro e w5 ⟨rfl, hb5⟩)
    | (go_at_call 16; (with_reducible refine (hF w2 (by repeat (first | exact Below.refl _ _ | assumption | refine b_then ?_ (by assumption) | refine b_alloc ?_ _ | refine b_drewN ?_ _ | refine Below.drew ?_ | refine b_set ?_ (by first | exact Nat.le_refl _ | (simp; done) | (simp; omega) | omega) _))).mono ?_); rintro e w5 ⟨rfl, hb5⟩)
    | (go_at_call 16; (with_reducible refine (hF _ (by repeat (first | exact Below.refl _ _ | assumption | refine b_then ?_ (by assumption) | refine b_alloc ?_ _ | refine b_drewN ?_ _ | refine Below.drew ?_ | refine b_set ?_ (by first | exact Nat.le_refl _ | (simp; done) | (simp; omega) | omega) _))).mono ?_); rintro e w1 ⟨rfl, hb1⟩; obtain ⟨hc1, hf1⟩ := bcell hb1; have hs1 := hb1.size; (try simp at hs1); have hq1 : w.heap.size < w1.heap.size := (by omega))
    | (go_at_call 13; (with_reducible refine (hLt _).mono ?_); rintro e w2 ⟨b, rfl, hbL, hb2⟩; obtain ⟨hc2, hf2⟩ := bcell hb2; have hs2 := hb2.size; (try simp at hs2); have hq2 : w.heap.size < w2.heap.size := (by omega); have HbL := Lib.hid hbL; clear hbL; cases b)
    | (go_at_call 29; (with_reducible refine (hM _).mono ?_); rintro e w3 ⟨rfl, hb3⟩; obtain ⟨hc3, hf3⟩ := bcell hb3; have hs3 := hb3.size; (try simp at hs3); have hq3 : w.heap.size < w3.heap.size := (by omega))
    | (go_at_call 20; (with_reducible refine (hO _ (by repeat (first | exact Below.refl _ _ | assumption | refine b_then ?_ (by assumption) | refine b_alloc ?_ _ | refine b_drewN ?_ _ | refine Below.drew ?_ | refine b_set ?_ (by first | exact Nat.le_refl _ | (simp; done) | (simp; omega) | omega) _))).mono ?_); rintro e w4 ⟨B, k, rfl, hR, hb4⟩; revert hR hb4))
  · go_ret
    exact ⟨rfl, (by repeat (first | exact Below.refl _ _ | assumption | refine b_then ?_ (by assumption) | refine b_alloc ?_ _ | refine b_drewN ?_ _ | refine Below.drew ?_ | refine b_set ?_ (by first | exact Nat.le_refl _ | (simp; done) | (simp; omega) | omega) _))⟩
  · intro hR hb4
    have hB4 : Below w.heap.size w w4 := (by repeat (first | exact Below.refl _ _ | assumption | refine b_then ?_ (by assumption) | refine b_alloc ?_ _ | refine b_drewN ?_ _ | refine Below.drew ?_ | refine b_set ?_ (by first | exact Nat.le_refl _ | (simp; done) | (simp; omega) | omega) _))
    have b4 := (((BX.out.below hb1).below hb2).below hb3).below hb4
    clear hb1 hb2 hb3 hb4 hc1 hf1 hs1 hq1 hc2 hf2 hs2 hq2 hc3 hf3 hs3 hq3 HbL BX hM hO hF hLt
    have hl4 := b4.lt
    go_wp2
    refine hide3 (K := fun W' => _) (fun W' => Below w.heap.size w W' ∧ Rd Pt.cs 3 W' B 1 L ∧ Blk W' w.heap.size 25 #[.string a0, .int .i64 0, .string a2, .string a3, .string a4, .string a5, .string a6, .string a7, .int .i64 a8, .int .i64 a9, .int .i64 a10] ∧ Blk W' w4.heap.size 28 #[.slice B 1 k, .string a6, .string a7]) ⟨b_alloc hB4 _, hR.below (b_alloc (Below.refl _ _) _), b4.alloc _, Blk.new _ _ _⟩ ?_
    rintro Y ⟨hBY, RY, bY, PY⟩
    clear hB4 hR b4
    have kY : ∀ W, Below Y.heap.size Y W → Calls Tryz.prog 24 #[.agg #[.slice B 1 k, .string a6, .string a7], .string a2] W fun e w' => e = .returned (.bool false) ∧ Below W.heap.size W w' := fun W h => hK B k W (b_then hBY h) (RY.below h)
    have mY : ∀ W, Below Y.heap.size Y W → Calls Tryz.prog 22 #[.agg #[.slice B 1 k, .string a6, .string a7]] W fun e w' => e = .returned (.bool true) ∧ Below W.heap.size W w' := fun W h => hPM B k W (b_then hBY h) (RY.below h)
    have c1 := fun (y : After Y) => (bY.below y.h).cell 1
    have c2 := fun (y : After Y) => (bY.below y.h).cell 2
    have c4 := fun (y : After Y) => (bY.below y.h).cell 4
    have c5 := fun (y : After Y) => (bY.below y.h).cell 5
    simp at c1 c2 c4 c5
    have heq := eqRat

    clear hK hPM
    (refine wp_region_after (by kernel_rfl) (by kernel_rfl) ?_; (repeat (first | go_big_quiet_skip | (go_big_quiet_want; go_big_quiet_op; first | go_big_quiet_on | (apply Exists.intro; refine ⟨fun _ => ?_, ?_⟩; (focus ((go_at_call 28; with_reducible exact Calls.after (hOne _)))); go_big_quiet_on)))); refine wpQuiet_nil ?_; rintro w6 ⟨⟨_, hb6⟩, rfl⟩; (try dsimp only); obtain ⟨hc6, hf6⟩ := bcell hb6; have hs6 := hb6.size; (try simp at hs6))
    have bz := bY.below hb6
    have pz := PY.below hb6
    have d1 := bz.cell 1
    have d2 := bz.cell 2
    have e0 := pz.cell 0
    have e1 := pz.cell 1
    have e2 := pz.cell 2
    simp at d1 d2 e0 e1 e2
    have hlz := bz.lt
    have hlp := pz.lt
    have BZ := Lib.hid bz
    have PZ := Lib.hid pz
    clear c1 c2 c4 c5 bY PY RY bz pz hc6 hf6 hs6
    go_wp2_with (first
      | (go_at_call 22; (with_reducible refine (mY _ hb6).mono ?_); rintro e w7 ⟨rfl, hb7⟩; have c2 := (BZ.out.below hb7).cell 2; have c1 := (BZ.out.below hb7).cell 1; have g0 := (PZ.out.below hb7).cell 0; have g1 := (PZ.out.below hb7).cell 1; have g2 := (PZ.out.below hb7).cell 2; simp at c1 c2 g0 g1 g2)
      | (go_at_call 24; (with_reducible refine (kY _ (b_then hb6 hb7)).mono ?_); rintro e w8 ⟨rfl, hb8⟩; have u1 := ((BZ.out.below hb7).below hb8).cell 1; have u0 := ((PZ.out.below hb7).below hb8).cell 0; simp at u0 u1))
    go_ret
    exact ⟨rfl, b_then (b_then (b_then hBY hb6) hb7) hb8⟩
theorem l_pmay (HF : Fixed16Ok) (a0 : ByteArray) (a1 : Int) (a2 a3 a4 a5 a6 a7 : ByteArray) (a8 a9 a10 : Int) (w : World) (hg : Glob w) (h0 : a0.size ≤ 9223372036854775807) (h2 : a2.size ≤ 9223372036854775807) (h3 : a3.size ≤ 9223372036854775807) (h4 : a4.size ≤ 9223372036854775807) (h5 : a5.size ≤ 9223372036854775807) (h6 : a6.size ≤ 9223372036854775807) (h7 : a7.size ≤ 9223372036854775807) :
    Calls Tryz.prog 5 #[.agg #[.string a0, .int .i64 a1, .string a2, .string a3, .string a4, .string a5, .string a6, .string a7, .int .i64 a8, .int .i64 a9, .int .i64 a10]] w fun e w' => e = .returned (.bool true) ∧ Below w.heap.size w w' := by
  cases hm : amay ⟨a0, a1, a2, a3, ⟨a4, a5⟩, ⟨a6, a7⟩, a8, a9, a10⟩ with
  | false => exact l_pmay_no HF a0 a1 a2 a3 a4 a5 a6 a7 a8 a9 a10 w hg h0 h2 h3 h4 h5 h6 h7 hm
  | true =>
    have hk := kinds (amay_of hm)
    dsimp only at hk
    rcases hk with rfl | rfl | rfl | rfl | rfl
    · cases hr : decide ((⟨a4, a5⟩ : RT) = enc 1) with
      | true => exact l_pmay_0y HF a0 a2 a3 a4 a5 a6 a7 a8 a9 a10 w hg h0 h2 h3 h4 h5 h6 h7 hm hr
      | false => exact l_pmay_0n HF a0 a2 a3 a4 a5 a6 a7 a8 a9 a10 w hg h0 h2 h3 h4 h5 h6 h7 hm hr
    · exact l_pmay_1 HF a0 a2 a3 a4 a5 a6 a7 a8 a9 a10 w hg h0 h2 h3 h4 h5 h6 h7 hm
    · exact l_pmay_2 HF a0 a2 a3 a4 a5 a6 a7 a8 a9 a10 w hg h0 h2 h3 h4 h5 h6 h7 hm
    · exact l_pmay_3 HF a0 a2 a3 a4 a5 a6 a7 a8 a9 a10 w hg h0 h2 h3 h4 h5 h6 h7 hm
    · exact l_pmay_4 HF a0 a2 a3 a4 a5 a6 a7 a8 a9 a10 w hg h0 h2 h3 h4 h5 h6 h7 hm
end Go.Proofs.YtdkpbifpafaabaaGreatDoor
