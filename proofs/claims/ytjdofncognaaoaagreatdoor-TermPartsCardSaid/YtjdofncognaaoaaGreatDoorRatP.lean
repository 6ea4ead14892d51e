/- Walks of rat: reduced, Add, Neg, Sign, Of, Cmp. -/
import Derived.Test.YtjdofncognaaoaaGreatDoorNatK
import Derived.Test.YtjdofncognaaoaaGreatDoorFixA
import Derived.Test.YtjdofncognaaoaaGreatDoorRat
import Derived.Test.YtjdofncognaaoaaGreatDoorBoxed
namespace Go.Proofs.YtjdofncognaaoaaGreatDoor
open Go.RowKit
set_option linter.unusedVariables false
set_option linter.unusedSimpArgs false

/-- A fraction of few digits. -/
def rsmall (k : Nat) (q : Rat) : Prop := ndg q.num.natAbs ≤ k ∧ ndg q.den ≤ k
theorem natAbs_div_le (a : Int) (g : Nat) : (a / (g : Int)).natAbs ≤ a.natAbs := Int.natAbs_ediv_le_natAbs a g
theorem rsmall_mk {a : Int} {d k : Nat} (h0 : 0 < d) (ha : ndg a.natAbs ≤ k) (hd : ndg d ≤ k) : rsmall k (mkRat a d) := by
  refine ⟨?_, ?_⟩
  · rw [Rat.num_mkRat, if_neg (by omega)]
    exact Nat.le_trans (ndg_mono (natAbs_div_le _ _)) ha
  · rw [Rat.den_mkRat, if_neg (by omega)]
    exact Nat.le_trans (ndg_mono (Nat.div_le_self _ _)) hd
theorem rsmall_num {j k : Nat} {x y : Rat} (hx : rsmall j x) (hy : rsmall k y) : ndg (x.num * (y.den : Int)).natAbs ≤ j + k := by
  rw [Int.natAbs_mul]
  have := ndg_mul x.num.natAbs (y.den : Int).natAbs
  have h1 := hx.1
  have h2 : ndg (y.den : Int).natAbs ≤ k := hy.2
  omega
theorem ndg_iadd (a b : Int) : ndg (a + b).natAbs ≤ max (ndg a.natAbs) (ndg b.natAbs) + 1 :=
  Nat.le_trans (ndg_mono (Int.natAbs_add_le a b)) (ndg_add _ _)
theorem rsmall_add {j k : Nat} {x y : Rat} (hx : rsmall j x) (hy : rsmall k y) : rsmall (j + k + 1) (x + y) := by
  rw [Rat.add_def']
  refine rsmall_mk (Nat.mul_pos x.den_pos y.den_pos) ?_ ?_
  · have h1 := rsmall_num hx hy
    have h2 := rsmall_num hy hx
    have h3 := ndg_iadd (x.num * (y.den : Int)) (y.num * (x.den : Int))
    omega
  · have := ndg_mul x.den y.den
    have h1 := hx.2
    have h2 := hy.2
    omega
theorem rsmall_neg {k : Nat} {x : Rat} (hx : rsmall k x) : rsmall k (-x) := ⟨by rw [Rat.neg_num, Int.natAbs_neg]; exact hx.1, by rw [Rat.neg_den]; exact hx.2⟩
theorem rsmall_mono {j k : Nat} {x : Rat} (h : rsmall j x) (hk : j ≤ k) : rsmall k x := ⟨Nat.le_trans h.1 hk, Nat.le_trans h.2 hk⟩
theorem enc_v (q : Rat) : (enc q).v = .agg #[.string (iS q.num), .string (nS q.den)] := rfl
theorem p_rmayE (q : Rat) (w : World) (hg : Glob w) (h : rsmall 880000000 q) :
    Calls Tryz.prog 124 #[.agg #[.string (iS q.num), .string (nS q.den)]] w fun e w' => e = .returned (.bool true) ∧ Below w.heap.size w w' := by
  have := p_rmay (iS q.num) (nS q.den) w hg (by have := iS_sz h.1; omega) (by rw [nS_size]; have := h.2; omega)
  rwa [show rmay ⟨iS q.num, nS q.den⟩ = true from rmay_enc q] at this
set_option maxHeartbeats 400000 in
theorem p_both (x y : Rat) (w : World) (hg : Glob w) (hx : rsmall 880000000 x) (hy : rsmall 880000000 y) :
    Calls Tryz.prog 143 #[.agg #[.string (iS x.num), .string (nS x.den)], .agg #[.string (iS y.num), .string (nS y.den)]] w fun e w' => e = .returned (.bool true) ∧ Below w.heap.size w w' := by
  have hX := fun W hg => p_rmayE x W hg hx
  have hY := fun W hg => p_rmayE y W hg hy
  go_enter Tryz.func143, Tryz.ntmps143
  go_wp2_with (first
    | (go_at_call 124; (with_reducible refine (hX _ (hg.below (by repeat (first | exact Below.refl _ _ | assumption | refine b_then ?_ (by assumption) | refine b_alloc ?_ _ | refine b_drewN ?_ _ | refine Below.drew ?_ | refine b_set ?_ (by first | exact Nat.le_refl _ | (simp; done) | (simp; omega) | omega) _)))).mono ?_); rintro e w1 ⟨rfl, hb1⟩; have hs1 := hb1.size; obtain ⟨hc1, hf1⟩ := bcell hb1)
    | (go_at_call 124; (with_reducible refine (hY _ (hg.below (by repeat (first | exact Below.refl _ _ | assumption | refine b_then ?_ (by assumption) | refine b_alloc ?_ _ | refine b_drewN ?_ _ | refine Below.drew ?_ | refine b_set ?_ (by first | exact Nat.le_refl _ | (simp; done) | (simp; omega) | omega) _)))).mono ?_); rintro e w2 ⟨rfl, hb2⟩; have hs2 := hb2.size; obtain ⟨hc2, hf2⟩ := bcell hb2))
  go_ret
  exact ⟨rfl, (by repeat (first | exact Below.refl _ _ | assumption | refine b_then ?_ (by assumption) | refine b_alloc ?_ _ | refine b_drewN ?_ _ | refine Below.drew ?_ | refine b_set ?_ (by first | exact Nat.le_refl _ | (simp; done) | (simp; omega) | omega) _))⟩
theorem w_signN (d : Nat) (w : World) (hs : ndg d ≤ 1000000000) (h0 : 0 < d) :
    Calls Tryz.prog 148 #[.string (nS d)] w fun e w' => e = .returned (.int .i64 1) ∧ Below w.heap.size w w' := by
  have := w_sign (d : Int) w hs
  rw [iS_nat, Int.sign_eq_one_of_pos (by omega)] at this
  exact this
set_option maxHeartbeats 800000 in
theorem p_reduced (a : Int) (d : Nat) (w : World) (hg : Glob w) (ha : ndg a.natAbs ≤ 880000000) (hd : ndg d ≤ 880000000) (h0 : 0 < d) :
    Calls Tryz.prog 144 #[.string (iS a), .string (nS d)] w fun e w' => e = .returned (enc (mkRat a d)).v ∧ Below w.heap.size w w' := by
  have hSD := fun W => w_signN d W (by omega) h0
  have hAb := fun W => w_abs a W (by have := iS_sz ha; omega)
  have hG := fun W hg => n_gcd a.natAbs d W hg (by omega) (by omega)
  have hg0 := gcd_pos (a := a) h0
  have hgn := gcd_ndg (a := a) h0
  rw [enc_mk a d h0]
  have hE : (d : Int) / (Nat.gcd a.natAbs d : Int) = ((d / Nat.gcd a.natAbs d : Nat) : Int) := rfl
  generalize Nat.gcd a.natAbs d = g at *
  have hQ := fun W hg => w_Div a g W hg (by omega) (by omega) hg0
  have hR := fun W hg => w_Div d g W hg (by show ndg d ≤ _; omega) (by omega) hg0
  simp only [hE, iS_nat] at hR
  have HQ := Lib.hid hQ
  have HR := Lib.hid hR
  clear hE hQ hR hg0 hgn
  go_enter Tryz.func144, Tryz.ntmps144
  go_wp2_with (first
    | (go_at_call 148; (with_reducible refine (hSD _).mono ?_); rintro e w1 ⟨rfl, hb1⟩; obtain ⟨hc1, hf1⟩ := bcell hb1; have hs1 := hb1.size; (try simp at hs1); have hq1 : w.heap.size < w1.heap.size := by omega) | (go_at_call 125; (with_reducible refine (hAb _).mono ?_); rintro e w2 ⟨rfl, hb2⟩; obtain ⟨hc2, hf2⟩ := bcell hb2; have hs2 := hb2.size; (try simp at hs2); have hq2 : w.heap.size < w2.heap.size := by omega)
    | (go_at_call 153; (with_reducible refine (hG _ (hg.below (by repeat (first | exact Below.refl _ _ | assumption | refine b_then ?_ (by assumption) | refine b_alloc ?_ _ | refine b_drewN ?_ _ | refine Below.drew ?_ | refine b_set ?_ (by first | exact Nat.le_refl _ | (simp; done) | (simp; omega) | omega) _)))).mono ?_); rintro e w3 ⟨rfl, hb3⟩; have hs3 := hb3.size; obtain ⟨hc3, hf3⟩ := bcell hb3; have hq3 : w.heap.size < w3.heap.size := by omega)
    | (go_at_call 170; (with_reducible refine (HQ.out _ (hg.below (by repeat (first | exact Below.refl _ _ | assumption | refine b_then ?_ (by assumption) | refine b_alloc ?_ _ | refine b_drewN ?_ _ | refine Below.drew ?_ | refine b_set ?_ (by first | exact Nat.le_refl _ | (simp; done) | (simp; omega) | omega) _)))).mono ?_); rintro e w4 ⟨rfl, hb4⟩; have hs4 := hb4.size; obtain ⟨hc4, hf4⟩ := bcell hb4; have hq4 : w.heap.size < w4.heap.size := by omega)
    | (go_at_call 170; (with_reducible refine (HR.out _ (hg.below (by repeat (first | exact Below.refl _ _ | assumption | refine b_then ?_ (by assumption) | refine b_alloc ?_ _ | refine b_drewN ?_ _ | refine Below.drew ?_ | refine b_set ?_ (by first | exact Nat.le_refl _ | (simp; done) | (simp; omega) | omega) _)))).mono ?_); rintro e w5 ⟨rfl, hb5⟩; have hs5 := hb5.size; obtain ⟨hc5, hf5⟩ := bcell hb5; have hq5 : w.heap.size < w5.heap.size := by omega))
  refine bodyPost_ret (v := .agg #[.string (iS (a / (g : Int))), .string (nS (d / g))]) ?_ rfl ⟨rfl, (by repeat (first | exact Below.refl _ _ | assumption | refine b_then ?_ (by assumption) | refine b_alloc ?_ _ | refine b_drewN ?_ _ | refine Below.drew ?_ | refine b_set ?_ (by first | exact Nat.le_refl _ | (simp; done) | (simp; omega) | omega) _))⟩
  simp [results, Tryz.results144, go_sem, hc1, hf1, hc2, hf2, hc3, hf3, hc4, hf4, hc5, hf5, hq1, hq2, hq3, hq4, hq5]
theorem w_mulN (a : Int) (d : Nat) (w : World) (hg : Glob w) (ha : ndg a.natAbs ≤ 440000000) (hd : ndg d ≤ 440000000) :
    Calls Tryz.prog 146 #[.string (iS a), .string (nS d)] w fun e w' => e = .returned (.string (iS (a * d))) ∧ Below w.heap.size w w' := by
  have := w_Mul a d w hg ha hd
  rwa [iS_nat] at this
set_option maxRecDepth 100000 in
set_option maxHeartbeats 2000000 in
theorem p_radd (x y : Rat) (w : World) (hg : Glob w) (hx : rsmall 400000000 x) (hy : rsmall 400000000 y) :
    Calls Tryz.prog 102 #[.agg #[.string (iS x.num), .string (nS x.den)], .agg #[.string (iS y.num), .string (nS y.den)]] w fun e w' => e = .returned (enc (x + y)).v ∧ Below w.heap.size w w' := by
  have hX := fun W hg => p_both x y W hg (rsmall_mono hx (by omega)) (rsmall_mono hy (by omega))
  have hM1 := fun W hg => w_mulN x.num y.den W hg (by have := hx.1; omega) (by have := hy.2; omega)
  have hM2 := fun W hg => w_mulN y.num x.den W hg (by have := hy.1; omega) (by have := hx.2; omega)
  have hN := fun W hg => n_Mul x.den y.den W hg (by have := hx.2; omega) (by have := hy.2; omega)
  have n1 := rsmall_num hx hy
  have n2 := rsmall_num hy hx
  have hA := fun W hg => w_Add (x.num * y.den) (y.num * x.den) W hg (by omega) (by omega)
  have n3 := ndg_iadd (x.num * y.den) (y.num * x.den)
  have n4 := ndg_mul x.den y.den
  have hK := fun W hg => p_reduced (x.num * y.den + y.num * x.den) (x.den * y.den) W hg (by omega) (by have := hx.2; have := hy.2; omega) (Nat.mul_pos x.den_pos y.den_pos)
  rw [Rat.add_def', enc_v]
  simp only [enc_v] at hK
  generalize mkRat (x.num * y.den + y.num * x.den) (x.den * y.den) = z at *
  generalize x.num * (y.den : Int) = p1 at *
  generalize y.num * (x.den : Int) = p2 at *
  generalize x.den * y.den = p3 at *
  generalize p1 + p2 = p4 at *
  clear n1 n2 n3 n4 hx hy
  go_enter Tryz.func102, Tryz.ntmps102
  go_wp2_with (go_at_call 143; (with_reducible refine (hX _ (hg.below (by repeat (first | exact Below.refl _ _ | assumption | refine b_then ?_ (by assumption) | refine b_alloc ?_ _ | refine b_drewN ?_ _ | refine Below.drew ?_ | refine b_set ?_ (by first | exact Nat.le_refl _ | (simp; done) | (simp; omega) | omega) _)))).mono ?_); rintro e w1 ⟨rfl, hb1⟩; obtain ⟨hc1, hf1⟩ := bcell hb1; have hs1 := hb1.size; (try simp at hs1); have hq1 : w.heap.size + 2 < w1.heap.size := (by omega); have hr1 : w.heap.size + 1 < w1.heap.size := (by omega); have hv1 : w.heap.size < w1.heap.size := (by omega); have hg1 : Glob w1 := hg.below (by repeat (first | exact Below.refl _ _ | assumption | refine b_then ?_ (by assumption) | refine b_alloc ?_ _ | refine b_drewN ?_ _ | refine Below.drew ?_ | refine b_set ?_ (by first | exact Nat.le_refl _ | (simp; done) | (simp; omega) | omega) _)))
  (refine wp_region_ahead 17 (by kernel_rfl) (by kernel_rfl) ?_; simp only [List.take_succ_cons, List.take_zero, List.drop_succ_cons, List.drop_zero]; (repeat (first | go_big_quiet_skip | (go_big_quiet_want; go_big_quiet_op; first | go_big_quiet_on | (apply Exists.intro; refine ⟨fun _ => ?_, ?_⟩; (focus (first | (go_at_call 146; with_reducible exact Calls.after (hM1 _ (hg1.below (After.h _)))) | (go_at_call 146; with_reducible exact Calls.after (hM2 _ (hg1.below (After.h _)))) | (go_at_call 145; with_reducible exact Calls.after (hA _ (hg1.below (After.h _)))) | (go_at_call 147; with_reducible exact Calls.after (hN _ (hg1.below (After.h _)))) | (go_at_call 144; with_reducible exact Calls.after (hK _ (hg1.below (After.h _)))))); go_big_quiet_on)))); refine wpQuiet_nil ?_; rintro ⟨w3, hb3⟩; (try dsimp only); obtain ⟨hc3, hf3⟩ := bcell hb3; have hs3 := hb3.size; (try simp at hs3))
  have hq3 : w.heap.size + 2 < w3.heap.size := by omega
  go_wp2
  refine bodyPost_ret (v := .agg #[.string (iS z.num), .string (nS z.den)]) ?_ rfl ⟨rfl, (by repeat (first | exact Below.refl _ _ | assumption | refine b_then ?_ (by assumption) | refine b_alloc ?_ _ | refine b_drewN ?_ _ | refine Below.drew ?_ | refine b_set ?_ (by first | exact Nat.le_refl _ | (simp; done) | (simp; omega) | omega) _))⟩
  simp [results, Tryz.results102, go_sem, hc1, hf1, hc3, hf3, hq1, hq3]
set_option maxHeartbeats 400000 in
theorem p_rsign (num den : ByteArray) (w : World) (hg : Glob w) (h1 : num.size ≤ 880000000) (h2 : den.size ≤ 880000000) :
    Calls Tryz.prog 106 #[.agg #[.string num, .string den]] w fun e w' => e = .returned (.int .i64 (rsign ⟨num, den⟩)) ∧ Below w.heap.size w w' := by
  have hM := fun W hg => p_rmay num den W hg (by omega) (by omega)
  unfold rsign
  cases c : rmay ⟨num, den⟩ with
  | false =>
    simp only [c] at hM
    simp only [Bool.false_eq_true, if_false]
    go_enter Tryz.func106, Tryz.ntmps106
    go_wp2_with (go_at_call 124; (with_reducible refine (hM _ (hg.below (by repeat (first | exact Below.refl _ _ | assumption | refine b_then ?_ (by assumption) | refine b_alloc ?_ _ | refine b_drewN ?_ _ | refine Below.drew ?_ | refine b_set ?_ (by first | exact Nat.le_refl _ | (simp; done) | (simp; omega) | omega) _)))).mono ?_); rintro e w1 ⟨rfl, hb1⟩; obtain ⟨hc1, hf1⟩ := bcell hb1; have hs1 := hb1.size; (try simp at hs1); have hv1 : w.heap.size < w1.heap.size := (by omega))
    go_ret
    exact ⟨rfl, (by repeat (first | exact Below.refl _ _ | assumption | refine b_then ?_ (by assumption) | refine b_alloc ?_ _ | refine b_drewN ?_ _ | refine Below.drew ?_ | refine b_set ?_ (by first | exact Nat.le_refl _ | (simp; done) | (simp; omega) | omega) _))⟩
  | true =>
    simp only [c] at hM
    obtain ⟨q, hq⟩ := rmay_of c
    injection hq with e1 e2
    subst e1; subst e2
    rw [if_pos rfl, show rnum ⟨iS q.num, nS q.den⟩ = q.num from ival_itx _]
    have hS := fun W => w_sign q.num W (by rw [iS_size] at h1; omega)
    go_enter Tryz.func106, Tryz.ntmps106
    go_wp2_with (first | (go_at_call 124; (with_reducible refine (hM _ (hg.below (by repeat (first | exact Below.refl _ _ | assumption | refine b_then ?_ (by assumption) | refine b_alloc ?_ _ | refine b_drewN ?_ _ | refine Below.drew ?_ | refine b_set ?_ (by first | exact Nat.le_refl _ | (simp; done) | (simp; omega) | omega) _)))).mono ?_); rintro e w1 ⟨rfl, hb1⟩; obtain ⟨hc1, hf1⟩ := bcell hb1; have hs1 := hb1.size; (try simp at hs1); have hv1 : w.heap.size < w1.heap.size := (by omega)) | (go_at_call 148; (with_reducible refine (hS _).mono ?_); rintro e w2 ⟨rfl, hb2⟩; obtain ⟨hc2, hf2⟩ := bcell hb2; have hs2 := hb2.size; (try simp at hs2)))
    go_ret
    exact ⟨rfl, (by repeat (first | exact Below.refl _ _ | assumption | refine b_then ?_ (by assumption) | refine b_alloc ?_ _ | refine b_drewN ?_ _ | refine Below.drew ?_ | refine b_set ?_ (by first | exact Nat.le_refl _ | (simp; done) | (simp; omega) | omega) _))⟩
set_option maxHeartbeats 400000 in
theorem p_rof (z : Int) (w : World) (hg : Glob w) (h0 : -9223372036854775808 ≤ z) (h1 : z ≤ 9223372036854775807) :
    Calls Tryz.prog 140 #[.int .i64 z] w fun e w' => e = .returned (enc (z : Rat)).v ∧ Below w.heap.size w w' := by
  have hI := fun W hg => c_itoa z W h0 h1 hg
  have hO : ∀ W, Glob W → Calls Tryz.prog 167 #[.int .i64 z] W fun e w' => e = .returned (.string (iS z)) ∧ Below W.heap.size W w' := fun W hgw => by
    go_enter Tryz.func167, Tryz.ntmps167
    go_wp2_with (go_at_call 88; (with_reducible refine (hI _ hgw).mono ?_); rintro e w1 ⟨rfl, hb1⟩)
    go_ret
    exact ⟨rfl, hb1⟩
  go_enter Tryz.func140, Tryz.ntmps140
  go_wp2_with (go_at_call 167; (with_reducible refine (hO _ (hg.below (by repeat (first | exact Below.refl _ _ | assumption | refine b_then ?_ (by assumption) | refine b_alloc ?_ _ | refine b_drewN ?_ _ | refine Below.drew ?_ | refine b_set ?_ (by first | exact Nat.le_refl _ | (simp; done) | (simp; omega) | omega) _)))).mono ?_); rintro e w1 ⟨rfl, hb1⟩; obtain ⟨hc1, hf1⟩ := bcell hb1; have hs1 := hb1.size; (try simp at hs1))
  refine bodyPost_ret (v := (enc (z : Rat)).v) ?_ rfl ⟨rfl, (by repeat (first | exact Below.refl _ _ | assumption | refine b_then ?_ (by assumption) | refine b_alloc ?_ _ | refine b_drewN ?_ _ | refine Below.drew ?_ | refine b_set ?_ (by first | exact Nat.le_refl _ | (simp; done) | (simp; omega) | omega) _))⟩
  simp [results, Tryz.results140, go_sem, hc1, hf1, hs1]
  rfl
end Go.Proofs.YtjdofncognaaoaaGreatDoor

/- Walks of the references' fractions: Add, Neg, Sign, Sub, Cmp. -/
namespace Go.Proofs.YtjdofncognaaoaaGreatDoor
open Go.RowKit
set_option linter.unusedVariables false
set_option linter.unusedSimpArgs false

theorem r3_mayE (q : Rat) (w : World) (h : rsmall 880000000 q) :
    Calls Tryz.prog 78 #[.agg #[.string (iS q.num), .string (nS q.den)]] w fun e w' => e = .returned (.bool true) ∧ Below w.heap.size w w' := by
  have := r3_may (iS q.num) (nS q.den) w (by have := iS_sz h.1; omega) (by rw [nS_size]; have := h.2; omega)
  rwa [show rmay ⟨iS q.num, nS q.den⟩ = true from rmay_enc q] at this
theorem r2_mulN (a : Int) (d : Nat) (w : World) (ha : ndg a.natAbs ≤ 900000000) (hd : ndg d ≤ 900000000) :
    Calls Tryz.prog 80 #[.string (iS a), .string (nS d)] w fun e w' => e = .returned (.string (iS (a * d))) ∧ Below w.heap.size w w' := by
  have := r2_mul a d w ha hd
  rwa [iS_nat] at this
set_option maxRecDepth 100000 in
set_option maxHeartbeats 2000000 in
theorem r3_add (x y : Rat) (w : World) (hx : rsmall 400000000 x) (hy : rsmall 400000000 y) :
    Calls Tryz.prog 45 #[.agg #[.string (iS x.num), .string (nS x.den)], .agg #[.string (iS y.num), .string (nS y.den)]] w fun e w' => e = .returned (enc (x + y)).v ∧ Below w.heap.size w w' := by
  have hX := fun W => r3_mayE x W (rsmall_mono hx (by omega))
  have hY := fun W => r3_mayE y W (rsmall_mono hy (by omega))
  have hM1 := fun W => r2_mulN x.num y.den W (by have := hx.1; omega) (by have := hy.2; omega)
  have hM2 := fun W => r2_mulN y.num x.den W (by have := hy.1; omega) (by have := hx.2; omega)
  have hN := fun W => r1_mul x.den y.den W (by have := hx.2; omega) (by have := hy.2; omega)
  have n1 := rsmall_num hx hy
  have n2 := rsmall_num hy hx
  have hA := fun W => r2_add (x.num * y.den) (y.num * x.den) W (by omega) (by omega)
  have n3 := ndg_iadd (x.num * y.den) (y.num * x.den)
  have n4 := ndg_mul x.den y.den
  have hK := fun W => r3_make (x.num * y.den + y.num * x.den) (x.den * y.den) W (by omega) (by have := hx.2; have := hy.2; omega) (Nat.mul_pos x.den_pos y.den_pos)
  rw [Rat.add_def', enc_v]
  simp only [enc_v] at hK
  generalize mkRat (x.num * y.den + y.num * x.den) (x.den * y.den) = z at *
  generalize x.num * (y.den : Int) = p1 at *
  generalize y.num * (x.den : Int) = p2 at *
  generalize x.den * y.den = p3 at *
  generalize p1 + p2 = p4 at *
  clear n1 n2 n3 n4 hx hy
  go_enter Tryz.func45, Tryz.ntmps45
  go_wp2_with (first | (go_at_call 78; (with_reducible refine (hX _).mono ?_); rintro e w1 ⟨rfl, hb1⟩; obtain ⟨hc1, hf1⟩ := bcell hb1; have hs1 := hb1.size; (try simp at hs1); have hq1 : w.heap.size + 2 < w1.heap.size := (by omega); have hr1 : w.heap.size + 1 < w1.heap.size := (by omega); have hv1 : w.heap.size < w1.heap.size := (by omega)) | (go_at_call 78; (with_reducible refine (hY _).mono ?_); rintro e w2 ⟨rfl, hb2⟩; obtain ⟨hc2, hf2⟩ := bcell hb2; have hs2 := hb2.size; (try simp at hs2); have hq2 : w.heap.size + 2 < w2.heap.size := (by omega); have hr2 : w.heap.size + 1 < w2.heap.size := (by omega); have hv2 : w.heap.size < w2.heap.size := (by omega)))
  (refine wp_region_boxed (T := 39) (A := ?boxA3) (u1 := .string ?boxU3) (u2 := .string ?boxV3) (z1 := .string ⟨#[]⟩) (z2 := .string ⟨#[]⟩) 20 21 18 5 34 (by kernel_rfl) (fun g => by kernel_rfl) (fun g x => ?boxH3) ⟨by kernel_rfl, by kernel_rfl, ⟨_, rfl, rfl, rfl, fun a W => run_alloc_rat rfl⟩, ⟨_, rfl, rfl, rfl, fun a W g h1 h2 hB => run_store_rat rfl h1 h2 hB⟩, ⟨_, rfl, rfl⟩, by kernel_rfl, by kernel_rfl, by decide, ?box13, ?box23, ?box33, ?box43⟩ (by decide) (by decide); (case boxH3 => (simp only [boxed, List.modify_succ_cons, List.modify_zero_cons, repA, repS]; (have hxs := x.h.size); (try simp at hxs); (repeat (first | go_big_quiet_skip | (go_big_quiet_want; go_big_quiet_op; first | go_big_quiet_on | (apply Exists.intro; refine ⟨fun _ => ?_, ?_⟩; (focus (first | (go_at_call 80; with_reducible exact Calls.after (hM1 _)) | (go_at_call 80; with_reducible exact Calls.after (hM2 _)) | (go_at_call 82; with_reducible exact Calls.after (hA _)) | (go_at_call 83; with_reducible exact Calls.after (hN _)) | (go_at_call 79; with_reducible exact Calls.after (hK _)))); go_big_quiet_on)))); refine wpQuiet_nil ?_; rfl)); (case box13 => exact fun g => rfl); (case box23 => first | decide | simp); (case box33 => intro g; first | rfl | (simp only [List.getElem?_toArray, List.getElem?_cons_succ, List.getElem?_cons_zero]; rfl) | (simp; exact ⟨rfl, rfl⟩)); rintro g3 w3 hg3 hb3 D3; (try dsimp only); obtain ⟨hc3, hf3⟩ := bcell hb3; have hs3 := hb3.size; (try simp at hs3))
  obtain ⟨d0, d1, d2, d3⟩ := D3.two
  have hq3 : w.heap.size + 2 < w3.heap.size := by omega
  have hne : g3 ≠ w.heap.size + 2 := by omega
  go_wp2
  refine bodyPost_ret (v := .agg #[.string (iS z.num), .string (nS z.den)]) ?_ rfl ⟨rfl, (by repeat (first | exact Below.refl _ _ | assumption | refine b_then ?_ (by assumption) | refine b_alloc ?_ _ | refine b_drewN ?_ _ | refine Below.drew ?_ | refine b_set ?_ (by first | exact Nat.le_refl _ | (simp; done) | (simp; omega) | omega) _))⟩
  simp [results, Tryz.results45, go_sem, hc1, hf1, hc2, hf2, hc3, hf3, hq1, hq2, hq3]
set_option maxHeartbeats 400000 in
theorem r3_neg (x : Rat) (w : World) (hx : rsmall 800000000 x) :
    Calls Tryz.prog 84 #[.agg #[.string (iS x.num), .string (nS x.den)]] w fun e w' => e = .returned (enc (-x)).v ∧ Below w.heap.size w w' := by
  have hX := fun W => r3_mayE x W (rsmall_mono hx (by omega))
  have hN := fun W => r2_neg x.num W (by have := hx.1; omega)
  rw [enc_v, Rat.neg_num, Rat.neg_den]
  go_enter Tryz.func84, Tryz.ntmps84
  go_wp2_with (go_at_call 78; (with_reducible refine (hX _).mono ?_); rintro e w1 ⟨rfl, hb1⟩; obtain ⟨hc1, hf1⟩ := bcell hb1; have hs1 := hb1.size; (try simp at hs1); have hq1 : w.heap.size + 1 < w1.heap.size := (by omega); have hv1 : w.heap.size < w1.heap.size := (by omega))
  (refine wp_region_ahead 6 (by kernel_rfl) (by kernel_rfl) ?_; simp only [List.take_succ_cons, List.take_zero, List.drop_succ_cons, List.drop_zero]; (repeat (first | go_big_quiet_skip | (go_big_quiet_want; go_big_quiet_op; first | go_big_quiet_on | (apply Exists.intro; refine ⟨fun _ => ?_, ?_⟩; (focus ((go_at_call 116; with_reducible exact Calls.after_same (hN _)))); go_big_quiet_on)))); refine wpQuiet_nil ?_; rintro ⟨w3, hb3⟩; (try dsimp only); obtain ⟨hc3, hf3⟩ := bcell hb3; have hs3 := hb3.size; (try simp at hs3))
  have hq3 : w.heap.size + 1 < w3.heap.size := by omega
  go_wp2
  refine bodyPost_ret (v := .agg #[.string (iS (-x.num)), .string (nS x.den)]) ?_ rfl ⟨rfl, (by repeat (first | exact Below.refl _ _ | assumption | refine b_then ?_ (by assumption) | refine b_alloc ?_ _ | refine b_drewN ?_ _ | refine Below.drew ?_ | refine b_set ?_ (by first | exact Nat.le_refl _ | (simp; done) | (simp; omega) | omega) _))⟩
  simp [results, Tryz.results84, go_sem, hc1, hf1, hc3, hf3, hq1, hv1, hq3]
set_option maxHeartbeats 400000 in
/-- The sign of whatever pair. -/
theorem r3_sign (num den : ByteArray) (w : World) (h1 : num.size ≤ 900000000) (h2 : den.size ≤ 900000000) :
    Calls Tryz.prog 43 #[.agg #[.string num, .string den]] w fun e w' => e = .returned (.int .i64 (rsign ⟨num, den⟩)) ∧ Below w.heap.size w w' := by
  have hM := fun W => r3_may num den W h1 h2
  unfold rsign
  cases c : rmay ⟨num, den⟩ with
  | false =>
    rw [c] at hM
    simp only [Bool.false_eq_true, if_false]
    go_enter Tryz.func43, Tryz.ntmps43
    go_wp2_with (go_at_call 78; (with_reducible refine (hM _).mono ?_); rintro e w1 ⟨rfl, hb1⟩; obtain ⟨hc1, hf1⟩ := bcell hb1; have hs1 := hb1.size; (try simp at hs1); have hv1 : w.heap.size < w1.heap.size := (by omega))
    go_ret
    exact ⟨rfl, (by repeat (first | exact Below.refl _ _ | assumption | refine b_then ?_ (by assumption) | refine b_alloc ?_ _ | refine b_drewN ?_ _ | refine Below.drew ?_ | refine b_set ?_ (by first | exact Nat.le_refl _ | (simp; done) | (simp; omega) | omega) _))⟩
  | true =>
    obtain ⟨q, hq⟩ := rmay_of c
    rw [c] at hM
    injection hq with e1 e2
    subst e1; subst e2
    rw [if_pos rfl, show rnum ⟨iS q.num, nS q.den⟩ = q.num from ival_itx _]
    have hS := fun W => r2_sign q.num W (by omega)
    go_enter Tryz.func43, Tryz.ntmps43
    go_wp2_with (first | (go_at_call 78; (with_reducible refine (hM _).mono ?_); rintro e w1 ⟨rfl, hb1⟩; obtain ⟨hc1, hf1⟩ := bcell hb1; have hs1 := hb1.size; (try simp at hs1); have hv1 : w.heap.size < w1.heap.size := (by omega)) | (go_at_call 81; (with_reducible refine (hS _).mono ?_); rintro e w' ⟨rfl, rfl⟩))
    go_ret
    exact ⟨rfl, (by repeat (first | exact Below.refl _ _ | assumption | refine b_then ?_ (by assumption) | refine b_alloc ?_ _ | refine b_drewN ?_ _ | refine Below.drew ?_ | refine b_set ?_ (by first | exact Nat.le_refl _ | (simp; done) | (simp; omega) | omega) _))⟩
end Go.Proofs.YtjdofncognaaoaaGreatDoor
