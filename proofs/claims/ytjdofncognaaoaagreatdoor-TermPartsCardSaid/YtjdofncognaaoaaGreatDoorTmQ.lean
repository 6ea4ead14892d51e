/- Walks of decimals: a decimal's print; a number's print in a term. -/
import Derived.Test.YtjdofncognaaoaaGreatDoorTmP
namespace Go.Proofs.YtjdofncognaaoaaGreatDoor
open Go.RowKit
set_option linter.unusedVariables false
set_option linter.unusedSimpArgs false

theorem zeros_l (q : Nat) : Lib.repeatL (ByteArray.mk #[48]).data.toList q = List.replicate q 48 := by
  have := Lib.repeatL_replicate 48 1 q
  rwa [Nat.mul_one] at this
theorem c_zerosN (q : Nat) (w : World) (hq : q ≤ 1000) : Calls Tryz.prog 158 #[.string { data := #[48] }, .int .i64 (q : Nat)] w fun e w' => e = .returned (.string (mkS (List.replicate q 48))) ∧ Below w.heap.size w w' := by
  have h1 : (ByteArray.mk #[48]).size = 1 := rfl
  have := c_repeat (ByteArray.mk #[48]) q w (by omega) (by rw [h1]; omega)
  rwa [zeros_l] at this
theorem ntx_pow : ∀ n : Nat, ntx (10 ^ n) = 49 :: List.replicate n 48
  | 0 => rfl
  | n + 1 => by
    have h : 10 ≤ 10 ^ (n + 1) := by
      rw [Nat.pow_succ]
      have : 0 < 10 ^ n := Nat.pow_pos (by omega)
      omega
    rw [ntx_big h, Nat.pow_succ, Nat.mul_div_cancel _ (by omega), Nat.mul_mod_left, ntx_pow n, List.replicate_succ']
    rfl
theorem nS_pow (n : Nat) : (⟨#[49]⟩ : ByteArray) ++ mkS (List.replicate n 48) = nS (10 ^ n) := s_ext (by rw [s_append, nS_l, ntx_pow]; rfl)
theorem ndg_pow (n : Nat) : ndg (10 ^ n) = n + 1 := by rw [← ntx_length, ntx_pow]; simp
theorem p_power (n : Nat) (w : World) (hn : n ≤ 100) : Calls Tryz.prog 157 #[.int .i64 (n : Nat)] w fun e w' => e = .returned (.string (nS (10 ^ n))) ∧ Below w.heap.size w w' := by
  have hz := fun W => c_zerosN n W (by omega)
  have HP := Lib.hid (nS_pow n)
  have hs : (mkS (List.replicate n 48)).size = n := by rw [sz, mkS_l]; simp
  generalize mkS (List.replicate n 48) = zs at *
  go_enter Tryz.func157, Tryz.ntmps157
  go_wp2_with (go_at_call 158; (with_reducible refine (hz _).mono ?_); rintro e w1 ⟨rfl, hb1⟩; obtain ⟨hc1, hf1⟩ := bcell hb1; have hs1 := hb1.size; (try simp at hs1))
  go_ret
  exact ⟨ret_str HP.out, (by repeat (first | exact Below.refl _ _ | assumption | refine b_then ?_ (by assumption) | refine b_alloc ?_ _ | refine b_drewN ?_ _ | refine Below.drew ?_ | refine b_set ?_ (by first | exact Nat.le_refl _ | (simp; done) | (simp; omega) | omega) _))⟩
theorem r4_zeros (n : Nat) (w : World) (hn : n ≤ 1000000) : Calls Tryz.prog 162 #[.int .i64 (n : Nat)] w fun e w' => e = .returned (.string (mkS (List.replicate n 48))) ∧ Below w.heap.size w w' := by
  go_enter Tryz.func162, Tryz.ntmps162
  go_wp2
  go_loopw [3, 4] (fun s i wr => ∃ k : Nat, k ≤ n ∧ i = .int .i64 k ∧ s = .string (mkS (List.replicate k 48)) ∧ Below w.heap.size w wr) (fun _ i _ => n - (intOf i).toNat)
  case atStart => exact ⟨0, Nat.zero_le _, rfl, rfl, Below.refl _ _⟩
  case round =>
    obtain ⟨k, hk, rfl, rfl, hB⟩ := hrel
    have e : mkS (List.replicate k 48) ++ (⟨#[48]⟩ : ByteArray) = mkS (List.replicate (k + 1) 48) := s_ext (by rw [s_append, mkS_l, mkS_l, List.replicate_succ'])
    have hs : (mkS (List.replicate k 48)).size = k := by rw [sz, mkS_l]; simp
    have HE := Lib.hid e
    clear e
    obtain ⟨zs, hzs⟩ : ∃ zs, mkS (List.replicate k 48) = zs := ⟨_, rfl⟩
    rw [hzs] at HE hs ⊢
    have HZS := Lib.hid hzs
    clear hzs
    by_cases hlt : k < n
    · go_wp2
      go_roundw
      case rel => exact ⟨k + 1, by omega, by go_num, by rw [← HE.out], hB⟩
      case measure => simp [intOf]; omega
    · obtain rfl : k = n := by omega
      go_wp2
      go_ret
      exact ⟨ret_str HZS.out.symm, hB⟩
/-- What the reference's loop has. -/
structure RI (D x two five : Nat) : Prop where
  pos : 0 < x
  pow : 2 ^ (two + five) * x ≤ D
  eq : rplaces x two five = dplaces D
theorem RI.start {D : Nat} (h : 0 < D) : RI D D 0 0 := ⟨h, by simp, rplaces_start D⟩
theorem RI.two {D x two five : Nat} (h : RI D x two five) (hx : x % 2 = 0) : RI D (x / 2) (two + 1) five ∧ x / 2 < x := by
  have h0 := h.pos
  have hd : x = 2 * (x / 2) := by omega
  refine ⟨⟨by omega, ?_, ?_⟩, by omega⟩
  · have := h.pow
    rw [show two + 1 + five = (two + five) + 1 by omega, Nat.pow_succ, Nat.mul_assoc, ← hd]; exact this
  · rw [← h.eq, rplaces_two h0 hx]
theorem RI.five {D x two five : Nat} (h : RI D x two five) (h2 : x % 2 ≠ 0) (hx : x % 5 = 0) : RI D (x / 5) two (five + 1) ∧ x / 5 < x := by
  have h0 := h.pos
  have hd : x = 5 * (x / 5) := by omega
  refine ⟨⟨by omega, ?_, ?_⟩, by omega⟩
  · have := h.pow
    rw [show two + (five + 1) = (two + five) + 1 by omega, Nat.pow_succ, Nat.mul_assoc]
    have h3 : 2 ^ (two + five) * (2 * (x / 5)) ≤ 2 ^ (two + five) * x := Nat.mul_le_mul_left _ (by omega)
    omega
  · rw [← h.eq, rplaces_five h0 h2 hx]
theorem RI.cnt {D x two five : Nat} (h : RI D x two five) : two + five ≤ 4 * ndg D ∧ x ≤ D := by
  have h1 : 2 ^ (two + five) * 1 ≤ 2 ^ (two + five) * x := Nat.mul_le_mul_left _ h.pos
  have h2 := h.pow
  have h3 : 0 < 2 ^ (two + five) := Nat.pow_pos (by omega)
  have h4 : 1 * x ≤ 2 ^ (two + five) * x := Nat.mul_le_mul_right _ h3
  have h5 := h.pos
  exact ⟨pow_ndg (by omega) (by omega), by omega⟩
theorem RI.none_ {D x two five : Nat} (h : RI D x two five) (h1 : x ≠ 1) (h2 : x % 2 ≠ 0) (h5 : x % 5 ≠ 0) : dplaces D = none := by rw [← h.eq, rplaces_none h1 h2 h5]
theorem RI.end_ {D two five : Nat} (h : RI D 1 two five) : dplaces D = some (max two five) := by rw [← h.eq, rplaces_end]
set_option maxHeartbeats 2000000 in
theorem r4_Places (q : Rat) (w : World) (h : rsmall 880000000 q) :
    Calls Tryz.prog 134 #[.agg #[.string (iS q.num), .string (nS q.den)]] w fun e w' => e = .returned (optN (dplaces q.den)) ∧ Below w.heap.size w w' := by
  have hM := fun W => r3_mayE q W h
  obtain ⟨hn, hd⟩ := h
  have h0 := q.den_pos
  have HI := Lib.hid (RI.start h0)
  obtain ⟨R, hR⟩ : ∃ R, dplaces q.den = R := ⟨_, rfl⟩
  have HRR := Lib.hid hR
  rw [hR]
  clear hR
  go_enter Tryz.func134, Tryz.ntmps134
  go_wp2_with (go_at_call 78; (with_reducible refine (hM _).mono ?_); rintro e w1 ⟨rfl, hb1⟩; obtain ⟨hc1, hf1⟩ := bcell hb1; have hs1 := hb1.size; (try simp at hs1); have hq1 : w.heap.size < w1.heap.size := (by omega))
  generalize hD : q.den = D at *
  have hw1 : Below w.heap.size w w1 := (by repeat (first | exact Below.refl _ _ | assumption | refine b_then ?_ (by assumption) | refine b_alloc ?_ _ | refine b_drewN ?_ _ | refine Below.drew ?_ | refine b_set ?_ (by first | exact Nat.le_refl _ | (simp; done) | (simp; omega) | omega) _))
  clear hc1 hf1 hM
  go_loopw [4, 5, 6] (fun d two five wr => ∃ x t f : Nat, d = .string (nS x) ∧ two = .int .i64 t ∧ five = .int .i64 f ∧ Hid (RI D x t f) ∧ Below w.heap.size w wr) (fun d _ _ _ => valN d)
  case atStart => exact ⟨D, 0, 0, rfl, rfl, rfl, HI, hw1⟩
  case round =>
    obtain ⟨x, t, f, rfl, rfl, rfl, H, hB⟩ := hrel
    obtain ⟨hcnt, hxD⟩ := H.out.cnt
    have hxd := ndg_mono hxD
    by_cases h1 : x = 1
    · subst h1
      have HE := Lib.hid H.out.end_
      rw [HRR.out] at HE
      have z1 := nS_is1
      have hmx : max (t : Int) (f : Int) = ((max t f : Nat) : Int) := by omega
      go_wp2
      all_goals
        go_ret2
        exact ⟨by rw [HE.out]; first | rfl | (simp [optN]; done) | (simp [optN]; omega), hB⟩
    · have z1 := nS_no1 h1
      have e2 : nS 2 = ⟨#[50]⟩ := rfl
      have e5 : nS 5 = ⟨#[53]⟩ := rfl
      have hA := fun W => r1_div x 2 W (by omega) (by rw [ndg_small (by omega)]; omega) (by omega)
      have hF := fun W => r1_div x 5 W (by omega) (by rw [ndg_small (by omega)]; omega) (by omega)
      rw [e2] at hA
      rw [e5] at hF
      by_cases h2 : x % 2 = 0
      · obtain ⟨hs, hl⟩ := H.out.two h2
        have HS := Lib.hid hs
        have HL := Lib.hid hl
        have z2 := nS_is0
        rw [h2] at hA
        clear h2 hs hl h1 hxD
        generalize x / 2 = y at *
        generalize x / 5 = u at *
        generalize x % 5 = v at *
        go_wp2_with (first | (go_at_call 150; (with_reducible refine (hA _).mono ?_); rintro e w1 ⟨rfl, hb1⟩; obtain ⟨hc1, hf1⟩ := bcell hb1; have hs1 := hb1.size; (try simp at hs1); skip) | (go_at_call 150; (with_reducible refine (hF _).mono ?_); rintro e w2 ⟨rfl, hb2⟩; obtain ⟨hc2, hf2⟩ := bcell hb2; have hs2 := hb2.size; (try simp at hs2); skip))
        go_roundw
        case rel => exact ⟨y, t + 1, f, rfl, by go_num, rfl, HS, b_then hB (by repeat (first | exact Below.refl _ _ | assumption | refine b_then ?_ (by assumption) | refine b_alloc ?_ _ | refine b_drewN ?_ _ | refine Below.drew ?_ | refine b_set ?_ (by first | exact Nat.le_refl _ | (simp; done) | (simp; omega) | omega) _))⟩
        case measure => rw [valN_nS, valN_nS]; exact HL.out
      · have z2 := nS_no0 h2
        by_cases h5 : x % 5 = 0
        · obtain ⟨hs, hl⟩ := H.out.five h2 h5
          have HS := Lib.hid hs
          have HL := Lib.hid hl
          have z5 := nS_is0
          rw [h5] at hF
          clear h2 hs hl h1 hxD h5
          generalize x / 2 = y at *
          generalize x % 2 = v at *
          generalize x / 5 = u at *
          go_wp2_with (first | (go_at_call 150; (with_reducible refine (hA _).mono ?_); rintro e w1 ⟨rfl, hb1⟩; obtain ⟨hc1, hf1⟩ := bcell hb1; have hs1 := hb1.size; (try simp at hs1); skip) | (go_at_call 150; (with_reducible refine (hF _).mono ?_); rintro e w2 ⟨rfl, hb2⟩; obtain ⟨hc2, hf2⟩ := bcell hb2; have hs2 := hb2.size; (try simp at hs2); skip))
          go_roundw
          case rel => exact ⟨u, t, f + 1, rfl, rfl, by go_num, HS, b_then hB (by repeat (first | exact Below.refl _ _ | assumption | refine b_then ?_ (by assumption) | refine b_alloc ?_ _ | refine b_drewN ?_ _ | refine Below.drew ?_ | refine b_set ?_ (by first | exact Nat.le_refl _ | (simp; done) | (simp; omega) | omega) _))⟩
          case measure => rw [valN_nS, valN_nS]; exact HL.out
        · have z5 := nS_no0 h5
          have HE := Lib.hid (H.out.none_ h1 h2 h5)
          rw [HRR.out] at HE
          clear h2 h1 hxD h5
          generalize x / 2 = y at *
          generalize x % 2 = v at *
          generalize x / 5 = u at *
          generalize x % 5 = v5 at *
          go_wp2_with (first | (go_at_call 150; (with_reducible refine (hA _).mono ?_); rintro e w1 ⟨rfl, hb1⟩; obtain ⟨hc1, hf1⟩ := bcell hb1; have hs1 := hb1.size; (try simp at hs1); skip) | (go_at_call 150; (with_reducible refine (hF _).mono ?_); rintro e w2 ⟨rfl, hb2⟩; obtain ⟨hc2, hf2⟩ := bcell hb2; have hs2 := hb2.size; (try simp at hs2); skip))
          go_ret2
          exact ⟨by rw [HE.out]; rfl, b_then hB (by repeat (first | exact Below.refl _ _ | assumption | refine b_then ?_ (by assumption) | refine b_alloc ?_ _ | refine b_drewN ?_ _ | refine Below.drew ?_ | refine b_set ?_ (by first | exact Nat.le_refl _ | (simp; done) | (simp; omega) | omega) _))⟩
/-- The number without its point. -/
def dM (q : Rat) (n : Nat) : Nat := q.num.natAbs * (10 ^ n / q.den)
theorem dM_zero {q : Rat} (h : dplaces q.den = some 0) : dM q 0 = q.num.natAbs := by
  have := dplaces_dvd q.den_pos h
  have e : q.den = 1 := Nat.dvd_one.1 (by simpa using this)
  unfold dM
  rw [e]; simp
theorem dM_num {q : Rat} {n : Nat} (h : dplaces q.den = some n) : (q * ((10 ^ n : Nat) : Rat)).num.natAbs = dM q n := by
  obtain ⟨c, hc⟩ := dplaces_dvd q.den_pos h
  have hd : 10 ^ n / q.den = c := by rw [hc, Nat.mul_div_cancel_left _ q.den_pos]
  have e : q * ((10 ^ n : Nat) : Rat) = ((q.num * (c : Int) : Int) : Rat) := by
    rw [hc]
    have h1 : q * (q.den : Rat) = (q.num : Rat) := by
      rw [Rat.mul_def']
      show mkRat (q.num * (q.den : Int)) (q.den * 1) = _
      have := Rat.mkRat_mul_right (n := q.num) (d := 1) (a := q.den) q.den_nz
      rw [Nat.one_mul] at this
      rw [Nat.mul_one, this, Rat.mkRat_one]
    push_cast
    rw [← Rat.mul_assoc, h1]
  unfold dM
  rw [e, hd]
  show (q.num * (c : Int)).natAbs = _
  rw [Int.natAbs_mul]; rfl
theorem dM_ndg {q : Rat} {n : Nat} (h : rsmall 1000 q) (hn : n ≤ 20) : ndg (dM q n) ≤ 1021 ∧ ndg (10 ^ n / q.den) ≤ 21 := by
  have h1 := ndg_pow n
  have h2 : ndg (10 ^ n / q.den) ≤ n + 1 := by rw [← h1]; exact ndg_mono (Nat.div_le_self _ _)
  have h3 := ndg_mul q.num.natAbs (10 ^ n / q.den)
  have h4 := h.1
  unfold dM
  omega
/-- The print, put together. -/
theorem dput {m n k : Nat} (hk : n + 1 - ndg m = k) (h0 : n ≠ 0) : (mkS (List.replicate k 48) ++ nS m) = mkS (ddig n m) ∧ n + 1 ≤ (mkS (ddig n m)).size ∧ (mkS (ddig n m)).size ≤ n + 1 + ndg m ∧
    ((⟨#[]⟩ : ByteArray) ++ (mkS (ddig n m)).extract 0 ((mkS (ddig n m)).size - n) ++ ⟨#[46]⟩ ++ (mkS (ddig n m)).extract ((mkS (ddig n m)).size - n) (mkS (ddig n m)).size) = mkS (dtext m n) := by
  have e : (mkS (List.replicate k 48) ++ nS m) = mkS (ddig n m) := s_ext (by rw [s_append, mkS_l, mkS_l, nS_l]; unfold ddig; rw [ntx_length, hk])
  have hl := ddig_len n m
  have hz : (mkS (ddig n m)).size = (ddig n m).length := by rw [sz, mkS_l]
  refine ⟨e, by omega, ?_, ?_⟩
  · rw [hz]; unfold ddig; first | (simp [ntx_length]; done) | (simp [ntx_length]; omega)
  · refine s_ext ?_
    rw [s_append, s_append, s_append, s_extract, s_extract, mkS_l, mkS_l, hz]
    unfold dtext
    rw [if_neg h0]
    first | (simp; done) | (simp; rw [List.take_of_length_le (Nat.le_refl _)])
end Go.Proofs.YtjdofncognaaoaaGreatDoor
