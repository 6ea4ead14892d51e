/- Walks of fractions' products: rat.Mul, and the references'. -/
import Derived.Test.YtjdofncognaaoaaGreatDoorRatP
import Derived.Test.YtjdofncognaaoaaGreatDoorPkS
namespace Go.Proofs.YtjdofncognaaoaaGreatDoor
open Go.RowKit
set_option linter.unusedVariables false
set_option linter.unusedSimpArgs false

theorem rsmall_mulN {j k : Nat} {x y : Rat} (hx : rsmall j x) (hy : rsmall k y) : ndg (x.num * y.num).natAbs ≤ j + k := by
  rw [Int.natAbs_mul]
  have h := ndg_mul x.num.natAbs y.num.natAbs
  have h1 := hx.1
  have h2 := hy.1
  omega
theorem rsmall_mul {j k : Nat} {x y : Rat} (hx : rsmall j x) (hy : rsmall k y) : rsmall (j + k) (x * y) := by
  rw [Rat.mul_def']
  refine rsmall_mk (Nat.mul_pos x.den_pos y.den_pos) (rsmall_mulN hx hy) ?_
  have h := ndg_mul x.den y.den
  have h1 := hx.2
  have h2 := hy.2
  omega
def rmul (x y : RT) : RT := if rmay x && rmay y then enc (dec x * dec y) else rzero
theorem rmul_enc (p q : Rat) : rmul (enc p) (enc q) = enc (p * q) := by
  unfold rmul
  rw [rmay_enc, rmay_enc, dec_enc, dec_enc]; rfl
set_option maxRecDepth 100000 in
set_option maxHeartbeats 2000000 in
theorem p_rmul (x y : Rat) (w : World) (hg : Glob w) (hx : rsmall 400000000 x) (hy : rsmall 400000000 y) :
    Calls Tryz.prog 104 #[.agg #[.string (iS x.num), .string (nS x.den)], .agg #[.string (iS y.num), .string (nS y.den)]] w fun e w' => e = .returned (enc (x * y)).v ∧ Below w.heap.size w w' := by
  have hX := fun W hg => p_both x y W hg (rsmall_mono hx (by omega)) (rsmall_mono hy (by omega))
  have hM1 := fun W hg => w_Mul x.num y.num W hg (by have := hx.1; omega) (by have := hy.1; omega)
  have hN := fun W hg => n_Mul x.den y.den W hg (by have := hx.2; omega) (by have := hy.2; omega)
  have n1 := rsmall_mulN hx hy
  have n4 := ndg_mul x.den y.den
  have hK := fun W hg => p_reduced (x.num * y.num) (x.den * y.den) W hg (by omega) (by have := hx.2; have := hy.2; omega) (Nat.mul_pos x.den_pos y.den_pos)
  rw [Rat.mul_def', enc_v]
  simp only [enc_v] at hK
  generalize mkRat (x.num * y.num) (x.den * y.den) = z at *
  generalize x.num * y.num = p1 at *
  generalize x.den * y.den = p3 at *
  clear n1 n4 hx hy
  go_enter Tryz.func104, Tryz.ntmps104
  go_wp2_with (go_at_call 143; (with_reducible refine (hX _ (hg.below (by repeat (first | exact Below.refl _ _ | assumption | refine b_then ?_ (by assumption) | refine b_alloc ?_ _ | refine b_drewN ?_ _ | refine Below.drew ?_ | refine b_set ?_ (by first | exact Nat.le_refl _ | (simp; done) | (simp; omega) | omega) _)))).mono ?_); rintro e w1 ⟨rfl, hb1⟩; obtain ⟨hc1, hf1⟩ := bcell hb1; have hs1 := hb1.size; (try simp at hs1); have hq1 : w.heap.size + 2 < w1.heap.size := (by omega); have hr1 : w.heap.size + 1 < w1.heap.size := (by omega); have hv1 : w.heap.size < w1.heap.size := (by omega); have hg1 : Glob w1 := hg.below (by repeat (first | exact Below.refl _ _ | assumption | refine b_then ?_ (by assumption) | refine b_alloc ?_ _ | refine b_drewN ?_ _ | refine Below.drew ?_ | refine b_set ?_ (by first | exact Nat.le_refl _ | (simp; done) | (simp; omega) | omega) _)))
  (refine wp_region_ahead 11 (by kernel_rfl) (by kernel_rfl) ?_; simp only [List.take_succ_cons, List.take_zero, List.drop_succ_cons, List.drop_zero]; (repeat (first | go_big_quiet_skip | (go_big_quiet_want; go_big_quiet_op; first | go_big_quiet_on | (apply Exists.intro; refine ⟨fun _ => ?_, ?_⟩; (focus (first | (go_at_call 146; with_reducible exact Calls.after (hM1 _ (hg1.below (After.h _)))) | (go_at_call 147; with_reducible exact Calls.after (hN _ (hg1.below (After.h _)))) | (go_at_call 144; with_reducible exact Calls.after (hK _ (hg1.below (After.h _)))))); go_big_quiet_on)))); refine wpQuiet_nil ?_; rintro ⟨w3, hb3⟩; (try dsimp only); obtain ⟨hc3, hf3⟩ := bcell hb3; have hs3 := hb3.size; (try simp at hs3))
  have hq3 : w.heap.size + 2 < w3.heap.size := by omega
  go_wp2
  refine bodyPost_ret (v := .agg #[.string (iS z.num), .string (nS z.den)]) ?_ rfl ⟨rfl, (by repeat (first | exact Below.refl _ _ | assumption | refine b_then ?_ (by assumption) | refine b_alloc ?_ _ | refine b_drewN ?_ _ | refine Below.drew ?_ | refine b_set ?_ (by first | exact Nat.le_refl _ | (simp; done) | (simp; omega) | omega) _))⟩
  simp [results, Tryz.results104, go_sem, hc1, hf1, hc3, hf3, hq1, hq3]
set_option maxRecDepth 100000 in
set_option maxHeartbeats 2000000 in
theorem r3_mul (x y : Rat) (w : World) (hx : rsmall 400000000 x) (hy : rsmall 400000000 y) :
    Calls Tryz.prog 47 #[.agg #[.string (iS x.num), .string (nS x.den)], .agg #[.string (iS y.num), .string (nS y.den)]] w fun e w' => e = .returned (enc (x * y)).v ∧ Below w.heap.size w w' := by
  have hX := fun W => r3_mayE x W (rsmall_mono hx (by omega))
  have hY := fun W => r3_mayE y W (rsmall_mono hy (by omega))
  have hM1 := fun W => r2_mul x.num y.num W (by have := hx.1; omega) (by have := hy.1; omega)
  have hN := fun W => r1_mul x.den y.den W (by have := hx.2; omega) (by have := hy.2; omega)
  have n1 := rsmall_mulN hx hy
  have n4 := ndg_mul x.den y.den
  have hK := fun W => r3_make (x.num * y.num) (x.den * y.den) W (by omega) (by have := hx.2; have := hy.2; omega) (Nat.mul_pos x.den_pos y.den_pos)
  rw [Rat.mul_def', enc_v]
  simp only [enc_v] at hK
  generalize mkRat (x.num * y.num) (x.den * y.den) = z at *
  generalize x.num * y.num = p1 at *
  generalize x.den * y.den = p3 at *
  clear n1 n4 hx hy
  go_enter Tryz.func47, Tryz.ntmps47
  go_wp2_with (first | (go_at_call 78; (with_reducible refine (hX _).mono ?_); rintro e w1 ⟨rfl, hb1⟩; obtain ⟨hc1, hf1⟩ := bcell hb1; have hs1 := hb1.size; (try simp at hs1); have hq1 : w.heap.size + 2 < w1.heap.size := (by omega); have hr1 : w.heap.size + 1 < w1.heap.size := (by omega); have hv1 : w.heap.size < w1.heap.size := (by omega)) | (go_at_call 78; (with_reducible refine (hY _).mono ?_); rintro e w2 ⟨rfl, hb2⟩; obtain ⟨hc2, hf2⟩ := bcell hb2; have hs2 := hb2.size; (try simp at hs2); have hq2 : w.heap.size + 2 < w2.heap.size := (by omega); have hr2 : w.heap.size + 1 < w2.heap.size := (by omega); have hv2 : w.heap.size < w2.heap.size := (by omega)))
  (refine wp_region_boxed (T := 39) (A := ?boxA3) (u1 := .string ?boxU3) (u2 := .string ?boxV3) (z1 := .string ⟨#[]⟩) (z2 := .string ⟨#[]⟩) 14 15 12 5 28 (by kernel_rfl) (fun g => by kernel_rfl) (fun g x => ?boxH3) ⟨by kernel_rfl, by kernel_rfl, ⟨_, rfl, rfl, rfl, fun a W => run_alloc_rat rfl⟩, ⟨_, rfl, rfl, rfl, fun a W g h1 h2 hB => run_store_rat rfl h1 h2 hB⟩, ⟨_, rfl, rfl⟩, by kernel_rfl, by kernel_rfl, by decide, ?box13, ?box23, ?box33, ?box43⟩ (by decide) (by decide); (case boxH3 => (simp only [boxed, List.modify_succ_cons, List.modify_zero_cons, repA, repS]; (have hxs := x.h.size); (try simp at hxs); (repeat (first | go_big_quiet_skip | (go_big_quiet_want; go_big_quiet_op; first | go_big_quiet_on | (apply Exists.intro; refine ⟨fun _ => ?_, ?_⟩; (focus (first | (go_at_call 80; with_reducible exact Calls.after (hM1 _)) | (go_at_call 83; with_reducible exact Calls.after (hN _)) | (go_at_call 79; with_reducible exact Calls.after (hK _)))); go_big_quiet_on)))); refine wpQuiet_nil ?_; rfl)); (case box13 => exact fun g => rfl); (case box23 => first | decide | simp); (case box33 => intro g; first | rfl | (simp only [List.getElem?_toArray, List.getElem?_cons_succ, List.getElem?_cons_zero]; rfl) | (simp; exact ⟨rfl, rfl⟩)); rintro g3 w3 hg3 hb3 D3; (try dsimp only); obtain ⟨hc3, hf3⟩ := bcell hb3; have hs3 := hb3.size; (try simp at hs3))
  obtain ⟨d0, d1, d2, d3⟩ := D3.two
  have hq3 : w.heap.size + 2 < w3.heap.size := by omega
  have hne : g3 ≠ w.heap.size + 2 := by omega
  go_wp2
  refine bodyPost_ret (v := .agg #[.string (iS z.num), .string (nS z.den)]) ?_ rfl ⟨rfl, (by repeat (first | exact Below.refl _ _ | assumption | refine b_then ?_ (by assumption) | refine b_alloc ?_ _ | refine b_drewN ?_ _ | refine Below.drew ?_ | refine b_set ?_ (by first | exact Nat.le_refl _ | (simp; done) | (simp; omega) | omega) _))⟩
  simp [results, Tryz.results47, go_sem, hc1, hf1, hc2, hf2, hc3, hf3, hq1, hq2, hq3]
end Go.Proofs.YtjdofncognaaoaaGreatDoor
