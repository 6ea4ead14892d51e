/- Walks: a decimal's print, a number's print in a term. -/
import Derived.Test.YtjdofncognaaoaaGreatDoorTmQ
import Derived.Test.YtjdofncognaaoaaGreatDoorBoxed
namespace Go.Proofs.YtjdofncognaaoaaGreatDoor
open Go.RowKit
set_option linter.unusedVariables false
set_option linter.unusedSimpArgs false

theorem optN_some (n : Nat) : optN (some n) = .tuple #[.int .i64 (n : Nat), .bool true] := rfl
theorem optN_none : optN none = .tuple #[.int .i64 0, .bool false] := rfl
theorem max_sub (a b : Nat) : max ((a : Int) - (b : Int)) 0 = ((a - b : Nat) : Int) := by omega
set_option maxRecDepth 100000 in
set_option maxHeartbeats 4000000 in
theorem p_dprint (q : Rat) (n : Nat) (w : World) (hg : Glob w) (h : rsmall 1000 q) (hp : dplaces q.den = some n) (hn : n ≤ 20) (h0 : 0 ≤ q.num) :
    Calls Tryz.prog 129 #[.agg #[.string (iS q.num), .string (nS q.den)]] w fun e w' => e = .returned (.string (mkS (dtext (dM q n) n))) ∧ Below w.heap.size w w' := by
  have hP := fun W hgw => p_Places q W hgw (rsmall_mono h (by omega))
  rw [hp, optN_some] at hP
  have hM := fun W hgw => p_rmayE q W hgw (rsmall_mono h (by omega))
  by_cases hz : n = 0
  · subst hz
    have e : iS q.num = mkS (dtext (dM q 0) 0) := by
      rw [dM_zero hp, iS_nonneg h0]
      unfold dtext
      rw [if_pos rfl]; rfl
    rw [← e]
    clear e hp
    rw [show ((0 : Nat) : Int) = 0 from rfl] at hP
    go_enter Tryz.func129, Tryz.ntmps129
    go_wp2_with (first | (go_at_call 128; (with_reducible refine (hP _ (hg.below (by repeat (first | exact Below.refl _ _ | assumption | refine b_then ?_ (by assumption) | refine b_alloc ?_ _ | refine b_drewN ?_ _ | refine Below.drew ?_ | refine b_set ?_ (by first | exact Nat.le_refl _ | (simp; done) | (simp; omega) | omega) _)))).mono ?_); rintro e w1 ⟨rfl, hb1⟩; obtain ⟨hc1, hf1⟩ := bcell hb1; have hs1 := hb1.size; (try simp at hs1); have hq1 : w.heap.size < w1.heap.size := (by omega)) | (go_at_call 124; (with_reducible refine (hM _ (hg.below (by repeat (first | exact Below.refl _ _ | assumption | refine b_then ?_ (by assumption) | refine b_alloc ?_ _ | refine b_drewN ?_ _ | refine Below.drew ?_ | refine b_set ?_ (by first | exact Nat.le_refl _ | (simp; done) | (simp; omega) | omega) _)))).mono ?_); rintro e w2 ⟨rfl, hb2⟩; obtain ⟨hc2, hf2⟩ := bcell hb2; have hs2 := hb2.size; (try simp at hs2); have hq2 : w.heap.size < w2.heap.size := (by omega)))
    go_ret
    exact ⟨rfl, (by repeat (first | exact Below.refl _ _ | assumption | refine b_then ?_ (by assumption) | refine b_alloc ?_ _ | refine b_drewN ?_ _ | refine Below.drew ?_ | refine b_set ?_ (by first | exact Nat.le_refl _ | (simp; done) | (simp; omega) | omega) _))⟩
  · have z0 : ((n : Int) == 0) = false := by rw [beq_eq_false_iff_ne]; omega
    obtain ⟨d1, d2⟩ := dM_ndg h hn
    have hW := fun W => p_power n W (by omega)
    have hD := fun W hgw => n_Div (10 ^ n) q.den W hgw (by rw [ndg_pow]; omega) (by have := h.2; omega) q.den_pos
    have hA := fun W => w_abs q.num W (by have := iS_sz h.1; omega)
    have hU := fun W hgw => n_Mul q.num.natAbs (10 ^ n / q.den) W hgw (by have := h.1; omega) (by omega)
    have hS := fun W => w_sign q.num W (by have := h.1; omega)
    have hs0 : ¬ (q.num.sign < 0) := by rw [Int.sign_neg_iff]; omega
    obtain ⟨k, hk⟩ : ∃ k, n + 1 - ndg (dM q n) = k := ⟨_, rfl⟩
    have hZ := fun W => c_zerosN k W (by omega)
    obtain ⟨e1, e2, e3, e4⟩ := dput hk hz
    have hsz : (nS (dM q n)).size = ndg (dM q n) := nS_size _
    have hUe : q.num.natAbs * (10 ^ n / q.den) = dM q n := rfl
    rw [hUe] at hU
    have hmx : max ((n : Int) + 1 - (ndg (dM q n) : Int)) 0 = (k : Int) := by omega
    have HP := Lib.hid e4
    generalize mkS (dtext (dM q n) n) = R at *
    generalize dM q n = m at *
    generalize 10 ^ n / q.den = u at *
    generalize 10 ^ n % q.den = r at *
    generalize 10 ^ n = t at *
    generalize q.num.sign = sg at *
    clear hUe e4 hp
    generalize nS m = sm at *
    have hks : (mkS (List.replicate k 48)).size = k := by rw [sz, mkS_l]; simp
    have hk2 : k ≤ 21 := by omega
    clear hk
    generalize mkS (List.replicate k 48) = sk at *
    generalize mkS (ddig n m) = sd at *
    have hcat : sk ++ sm = sd := e1
    go_enter Tryz.func129, Tryz.ntmps129
    go_wp2_with (first | (go_at_call 128; (with_reducible refine (hP _ (hg.below (by repeat (first | exact Below.refl _ _ | assumption | refine b_then ?_ (by assumption) | refine b_alloc ?_ _ | refine b_drewN ?_ _ | refine Below.drew ?_ | refine b_set ?_ (by first | exact Nat.le_refl _ | (simp; done) | (simp; omega) | omega) _)))).mono ?_); rintro e w1 ⟨rfl, hb1⟩; obtain ⟨hc1, hf1⟩ := bcell hb1; have hs1 := hb1.size; (try simp at hs1); have hq1 : w.heap.size < w1.heap.size := (by omega)) | (go_at_call 124; (with_reducible refine (hM _ (hg.below (by repeat (first | exact Below.refl _ _ | assumption | refine b_then ?_ (by assumption) | refine b_alloc ?_ _ | refine b_drewN ?_ _ | refine Below.drew ?_ | refine b_set ?_ (by first | exact Nat.le_refl _ | (simp; done) | (simp; omega) | omega) _)))).mono ?_); rintro e w2 ⟨rfl, hb2⟩; obtain ⟨hc2, hf2⟩ := bcell hb2; have hs2 := hb2.size; (try simp at hs2); have hq2 : w.heap.size < w2.heap.size := (by omega)))
    have hB2 : Below w.heap.size w w2 := (by repeat (first | exact Below.refl _ _ | assumption | refine b_then ?_ (by assumption) | refine b_alloc ?_ _ | refine b_drewN ?_ _ | refine Below.drew ?_ | refine b_set ?_ (by first | exact Nat.le_refl _ | (simp; done) | (simp; omega) | omega) _))
    have hg2 : Glob w2 := hg.below hB2
    have f0 := fun y : After w2 => (y.h.cell (p := ⟨w.heap.size, 0, none⟩) hq2)
    (refine wp_region_after (by kernel_rfl) (by kernel_rfl) ?_; (repeat (first | go_big_quiet_skip | (go_big_quiet_want; go_big_quiet_op; first | go_big_quiet_on | (apply Exists.intro; refine ⟨fun _ => ?_, ?_⟩; (focus (first | (go_at_call 157; with_reducible exact Calls.after (hW _)) | (go_at_call 156; with_reducible exact Calls.after (hD _ (hg2.below (After.h _)))))); go_big_quiet_on)))); refine wpQuiet_nil ?_; rintro w3 ⟨⟨_, hb3⟩, rfl⟩; (try dsimp only); obtain ⟨hc3, hf3⟩ := bcell hb3; have hs3 := hb3.size; (try simp at hs3))
    have hq3 : w.heap.size < w3.heap.size := by omega
    go_wp2_with (first | (go_at_call 125; (with_reducible refine (hA _).mono ?_); rintro e w4 ⟨rfl, hb4⟩; obtain ⟨hc4, hf4⟩ := bcell hb4; have hs4 := hb4.size; (try simp at hs4); have hq4 : w.heap.size < w4.heap.size := (by omega)) | (go_at_call 147; (with_reducible refine (hU _ (hg.below (by repeat (first | exact Below.refl _ _ | assumption | refine b_then ?_ (by assumption) | refine b_alloc ?_ _ | refine b_drewN ?_ _ | refine Below.drew ?_ | refine b_set ?_ (by first | exact Nat.le_refl _ | (simp; done) | (simp; omega) | omega) _)))).mono ?_); rintro e w5 ⟨rfl, hb5⟩; obtain ⟨hc5, hf5⟩ := bcell hb5; have hs5 := hb5.size; (try simp at hs5); have hq5 : w.heap.size < w5.heap.size := (by omega)) | (go_at_call 158; (with_reducible refine (hZ _).mono ?_); rintro e w6 ⟨rfl, hb6⟩; obtain ⟨hc6, hf6⟩ := bcell hb6; have hs6 := hb6.size; (try simp at hs6); have hq6 : w.heap.size < w6.heap.size := (by omega)) | (go_at_call 148; (with_reducible refine (hS _).mono ?_); rintro e w7 ⟨rfl, hb7⟩; obtain ⟨hc7, hf7⟩ := bcell hb7; have hs7 := hb7.size; (try simp at hs7); skip))
    go_quiet (fail)
    go_wp2
    go_ret
    exact ⟨ret_str (by rw [← HP.out]), (by repeat (first | exact Below.refl _ _ | assumption | refine b_then ?_ (by assumption) | refine b_alloc ?_ _ | refine b_drewN ?_ _ | refine Below.drew ?_ | refine b_set ?_ (by first | exact Nat.le_refl _ | (simp; done) | (simp; omega) | omega) _))⟩
set_option maxRecDepth 100000 in
set_option maxHeartbeats 4000000 in
theorem r4_print (q : Rat) (n : Nat) (w : World) (h : rsmall 1000 q) (hp : dplaces q.den = some n) (hn : n ≤ 20) (h0 : 0 ≤ q.num) :
    Calls Tryz.prog 135 #[.agg #[.string (iS q.num), .string (nS q.den)]] w fun e w' => e = .returned (.string (mkS (dtext (dM q n) n))) ∧ Below w.heap.size w w' := by
  have hP := fun W => r4_Places q W (rsmall_mono h (by omega))
  rw [hp, optN_some] at hP
  have hM := fun W => r3_mayE q W (rsmall_mono h (by omega))
  by_cases hz : n = 0
  · subst hz
    have e : iS q.num = mkS (dtext (dM q 0) 0) := by
      rw [dM_zero hp, iS_nonneg h0]
      unfold dtext
      rw [if_pos rfl]; rfl
    rw [← e]
    clear e hp
    rw [show ((0 : Nat) : Int) = 0 from rfl] at hP
    go_enter Tryz.func135, Tryz.ntmps135
    go_wp2_with (first | (go_at_call 134; (with_reducible refine (hP _).mono ?_); rintro e w1 ⟨rfl, hb1⟩; obtain ⟨hc1, hf1⟩ := bcell hb1; have hs1 := hb1.size; (try simp at hs1); have hq1 : w.heap.size < w1.heap.size := (by omega)) | (go_at_call 78; (with_reducible refine (hM _).mono ?_); rintro e w2 ⟨rfl, hb2⟩; obtain ⟨hc2, hf2⟩ := bcell hb2; have hs2 := hb2.size; (try simp at hs2); have hq2 : w.heap.size < w2.heap.size := (by omega)))
    go_ret
    exact ⟨rfl, (by repeat (first | exact Below.refl _ _ | assumption | refine b_then ?_ (by assumption) | refine b_alloc ?_ _ | refine b_drewN ?_ _ | refine Below.drew ?_ | refine b_set ?_ (by first | exact Nat.le_refl _ | (simp; done) | (simp; omega) | omega) _))⟩
  · have z0 : ((n : Int) == 0) = false := by rw [beq_eq_false_iff_ne]; omega
    obtain ⟨d1, d2⟩ := dM_ndg h hn
    have hZ0 := fun W => r4_zeros n W (by omega)
    have hpw := nS_pow n
    have hMul := fun W => r3_mul q ((10 ^ n : Nat) : Rat) W (rsmall_mono h (by omega)) ⟨by show ndg (10 ^ n) ≤ _; rw [ndg_pow]; omega, by show ndg 1 ≤ _; rw [ndg_small (by omega)]; omega⟩
    have en : iS ((10 ^ n : Nat) : Rat).num = nS (10 ^ n) := iS_nat _
    have ed : nS ((10 ^ n : Nat) : Rat).den = ⟨#[49]⟩ := rfl
    rw [en, ed] at hMul
    simp only [enc_v] at hMul
    have hY : (q * ((10 ^ n : Nat) : Rat)).num.natAbs = dM q n := dM_num hp
    have hAbs := fun W => r2_abs (q * ((10 ^ n : Nat) : Rat)).num W (by
      have h1 : ndg (q * ((10 ^ n : Nat) : Rat)).num.natAbs ≤ 2000 := by rw [hY]; omega
      have := iS_sz h1
      omega)
    rw [hY] at hAbs
    have hS := fun W => r3_sign (iS q.num) (nS q.den) W (by have := iS_sz h.1; omega) (by have := h.2; rw [nS_size]; omega)
    have hsg : rsign ⟨iS q.num, nS q.den⟩ = q.num.sign := by
      unfold rsign
      rw [show rmay ⟨iS q.num, nS q.den⟩ = true from rmay_enc q, if_pos rfl, show rnum ⟨iS q.num, nS q.den⟩ = q.num from ival_itx _]
    rw [hsg] at hS
    have hs0 : ¬ (q.num.sign < 0) := by rw [Int.sign_neg_iff]; omega
    obtain ⟨k, hk⟩ : ∃ k, n + 1 - ndg (dM q n) = k := ⟨_, rfl⟩
    have hZ := fun W => r4_zeros k W (by omega)
    obtain ⟨e1, e2, e3, e4⟩ := dput hk hz
    have hsz : (nS (dM q n)).size = ndg (dM q n) := nS_size _
    have hmx : max ((n : Int) + 1 - (ndg (dM q n) : Int)) 0 = (k : Int) := by omega
    have HP := Lib.hid e4
    have hzs : (mkS (List.replicate n 48)).size = n := by rw [sz, mkS_l]; simp
    have hks : (mkS (List.replicate k 48)).size = k := by rw [sz, mkS_l]; simp
    have hk2 : k ≤ 21 := by omega
    generalize mkS (dtext (dM q n) n) = R at *
    generalize dM q n = m at *
    generalize iS (q * ((10 ^ n : Nat) : Rat)).num = yn at *
    generalize nS (q * ((10 ^ n : Nat) : Rat)).den = yd at *
    generalize nS (10 ^ n) = t at *
    generalize q.num.sign = sg at *
    clear hY en ed hsg e4 hp hk
    generalize nS m = sm at *
    generalize mkS (List.replicate k 48) = sk at *
    generalize mkS (List.replicate n 48) = zn at *
    generalize mkS (ddig n m) = sd at *
    have hcat : sk ++ sm = sd := e1
    go_enter Tryz.func135, Tryz.ntmps135
    go_wp2_with (first | (go_at_call 78; (with_reducible refine (hM _).mono ?_); rintro e w1 ⟨rfl, hb1⟩; obtain ⟨hc1, hf1⟩ := bcell hb1; have hs1 := hb1.size; (try simp at hs1); have hq1 : w.heap.size < w1.heap.size := (by omega)) | (go_at_call 134; (with_reducible refine (hP _).mono ?_); rintro e w2 ⟨rfl, hb2⟩; obtain ⟨hc2, hf2⟩ := bcell hb2; have hs2 := hb2.size; (try simp at hs2); have hq2 : w.heap.size < w2.heap.size := (by omega)))
    have hB2 : Below w.heap.size w w2 := (by repeat (first | exact Below.refl _ _ | assumption | refine b_then ?_ (by assumption) | refine b_alloc ?_ _ | refine b_drewN ?_ _ | refine Below.drew ?_ | refine b_set ?_ (by first | exact Nat.le_refl _ | (simp; done) | (simp; omega) | omega) _))
    (refine wp_region_boxed (T := 39) (A := ?boxA3) (u1 := .string ?boxU3) (u2 := .string ?boxV3) (z1 := .string ⟨#[]⟩) (z2 := .string ⟨#[]⟩) 6 7 5 5 33 (by kernel_rfl) (fun g => by kernel_rfl) (fun g x => ?boxH3) ⟨by kernel_rfl, by kernel_rfl, ⟨_, rfl, rfl, rfl, fun a W => run_alloc_rat rfl⟩, ⟨_, rfl, rfl, rfl, fun a W g h1 h2 hB => run_store_rat rfl h1 h2 hB⟩, ⟨_, rfl, rfl⟩, by kernel_rfl, by kernel_rfl, by decide, ?box13, ?box23, ?box33, ?box43⟩ (by decide) (by decide); (case boxH3 => (simp only [boxed, List.modify_succ_cons, List.modify_zero_cons, repA, repS]; (have hxs := x.h.size); (try simp at hxs); (repeat (first | go_big_quiet_skip | (go_big_quiet_want; go_big_quiet_op; first | go_big_quiet_on | (apply Exists.intro; refine ⟨fun _ => ?_, ?_⟩; (focus (first | (go_at_call 162; with_reducible exact Calls.after (hZ0 _)) | (go_at_call 47; with_reducible exact Calls.after (hMul _)))); go_big_quiet_on)))); refine wpQuiet_nil ?_; rfl)); (case box13 => exact fun g => rfl); (case box23 => first | decide | simp); (case box33 => intro g; first | rfl | (simp only [List.getElem?_toArray, List.getElem?_cons_succ, List.getElem?_cons_zero]; rfl) | (simp; exact ⟨rfl, rfl⟩)); rintro g3 w3 hg3 hb3 D3; (try dsimp only); obtain ⟨hc3, hf3⟩ := bcell hb3; have hs3 := hb3.size; (try simp at hs3))
    obtain ⟨y0, y1, y2, y3⟩ := D3.two
    have hq3 : w.heap.size < w3.heap.size := by omega
    have hg3 := D3.lt
    go_wp2_with (first | (go_at_call 90; (with_reducible refine (hAbs _).mono ?_); rintro e w' ⟨rfl, rfl⟩) | (go_at_call 162; (with_reducible refine (hZ _).mono ?_); rintro e w6 ⟨rfl, hb6⟩; obtain ⟨hc6, hf6⟩ := bcell hb6; have hs6 := hb6.size; (try simp at hs6); have hq6 : w.heap.size < w6.heap.size := (by omega)) | (go_at_call 43; (with_reducible refine (hS _).mono ?_); rintro e w7 ⟨rfl, hb7⟩; obtain ⟨hc7, hf7⟩ := bcell hb7; have hs7 := hb7.size; (try simp at hs7); skip))
    go_quiet (fail)
    go_wp2
    go_ret
    exact ⟨ret_str (by rw [← HP.out]), (by repeat (first | exact Below.refl _ _ | assumption | refine b_then ?_ (by assumption) | refine b_alloc ?_ _ | refine b_drewN ?_ _ | refine Below.drew ?_ | refine b_set ?_ (by first | exact Nat.le_refl _ | (simp; done) | (simp; omega) | omega) _))⟩
end Go.Proofs.YtjdofncognaaoaaGreatDoor
