/- Walks of the reference's naturals: Div, Gcd. -/
import Derived.Test.YtpoejheienohjaaGreatDoorRefB
namespace Go.Proofs.YtpoejheienohjaaGreatDoor
open Go.RowKit
set_option linter.unusedVariables false
set_option linter.unusedSimpArgs false

theorem trim_snoc (R d : Nat) (hd : d < 10) : trimB (nS R ++ mkS [dg d]) = nS (10 * R + d) := by
  unfold trimB
  rw [s_append, nS_l, mkS_l, ntrim_digits _ (by simp), nval_snoc, nval_ntx, dg_toNat hd]
  · rw [show 48 + d - 48 = d by omega]; rfl
  · intro c hc
    simp only [List.mem_append, List.mem_singleton] at hc
    rcases hc with hc | rfl
    · exact fdg_all _ _ c hc
    · exact isDg_dg hd
theorem nS_digit (m i : Nat) (h : i < (nS m).size) : (nS m).extract i (i + 1) = mkS [dg (ndigit m ((nS m).size - 1 - i))] := by
  apply s_ext
  have h2 := ntx_get m (ndg m - 1 - i) (by rw [nS_size] at h; omega)
  have h3 : i < (ntx m).length := by rw [ntx_length, ← nS_size]; exact h
  rw [s_extract, mkS_l, nS_l, nS_size]
  rw [nS_size] at h
  rw [show ndg m - 1 - (ndg m - 1 - i) = i by omega] at h2
  rw [List.drop_take, show i + 1 - i = 1 by omega, List.drop_eq_getElem_cons h3]
  rw [List.getElem?_eq_getElem h3] at h2
  rw [Option.some.inj h2]
  rfl
/-- i digits of m have been divided: Q, R. -/
def divs (m n i Q R : Nat) : Prop := m / 10 ^ ((nS m).size - i) = Q * n + R ∧ R < n ∧ Q < 10 ^ i
theorem divs_step {m n i Q R k R' : Nat} (h : divs m n i Q R) (hi : i < (nS m).size) (hk : 10 * R + ndigit m ((nS m).size - 1 - i) = k * n + R') (hR : R' < n) : divs m n (i + 1) (10 * Q + k) R' ∧ k < 10 := by
  obtain ⟨h1, h2, h3⟩ := h
  have hd := ndigit_lt m ((nS m).size - 1 - i)
  have hk10 : k < 10 := by
    rcases Nat.lt_or_ge k 10 with h | h
    · exact h
    · have := Nat.mul_le_mul_right n h; omega
  refine ⟨⟨?_, hR, by rw [Nat.pow_succ]; omega⟩, hk10⟩
  have e : (nS m).size - i = ((nS m).size - (i + 1)) + 1 := by omega
  have e2 : m / 10 ^ ((nS m).size - (i + 1)) = 10 * (m / 10 ^ ((nS m).size - i)) + ndigit m ((nS m).size - 1 - i) := by
    rw [e, Nat.pow_succ, ← Nat.div_div_eq_div_mul, show (nS m).size - 1 - i = (nS m).size - (i + 1) by omega]
    unfold ndigit; omega
  rw [e2, h1, Nat.add_mul, Nat.mul_add, ← Nat.mul_assoc]; omega
theorem divs_end {m n Q R : Nat} (h : divs m n (nS m).size Q R) : Q = m / n ∧ R = m % n := by
  obtain ⟨h1, h2, h3⟩ := h
  rw [Nat.sub_self, Nat.pow_zero, Nat.div_one] at h1
  subst h1
  have hp : 0 < n := by omega
  rw [Nat.mul_comm Q n, Nat.mul_add_div hp, Nat.mul_add_mod, Nat.div_eq_of_lt h2, Nat.mod_eq_of_lt h2]
  exact ⟨rfl, rfl⟩
theorem trim_fdg {L Q : Nat} (hL : 1 ≤ L) (h : Q < 10 ^ L) : trimB (mkS (fdg L Q)) = nS Q := by
  unfold trimB; rw [mkS_l, ntrim_fdg hL h]; rfl
theorem cmpN_ge {m n : Nat} (h : n ≤ m) : 0 ≤ cmpN m n := by unfold cmpN; split <;> (try split) <;> omega
theorem cmpN_lt {m n : Nat} (h : m < n) : cmpN m n < 0 := by unfold cmpN; rw [if_pos h]; omega
theorem q_snoc {i Q k : Nat} (hk : k < 10) : mkS (fdg i Q) ++ (ByteArray.mk #[48, 49, 50, 51, 52, 53, 54, 55, 56, 57]).extract k (k + 1) = mkS (fdg (i + 1) (10 * Q + k)) := by
  apply s_ext
  rw [of_digit k hk, s_append, mkS_l, mkS_l, mkS_l, fdg, show (10 * Q + k) / 10 = Q by omega, show (10 * Q + k) % 10 = k by omega]
theorem fdg_size (i Q : Nat) : (mkS (fdg i Q)).size = i := by rw [sz, mkS_l, fdg_length]

theorem ndg_ten {T n : Nat} (h : T < 10 * n) : ndg T ≤ ndg n + 1 := by
  apply ndg_le_of (by omega)
  have := ndg_lt n
  rw [Nat.pow_succ]; omega
theorem k_lt {T k n R' : Nat} (h : T = k * n + R') (hT : T < 10 * n) : k < 10 := by
  rcases Nat.lt_or_ge k 10 with h' | h'
  · exact h'
  · have := Nat.mul_le_mul_right n h'; omega
theorem k_step {T k n R' : Nat} (h : T = k * n + R') (hn : n ≤ R') : T = (k + 1) * n + (R' - n) := by rw [Nat.add_mul]; omega
set_option maxHeartbeats 400000 in
theorem r1_div_no (m : Nat) (w : World) (hm : ndg m ≤ 900000000) :
    Calls Tryz.prog 134 #[.string (nS m), .string (nS 0)] w fun e w' => e = .returned (.tuple #[.string ⟨#[]⟩, .string ⟨#[]⟩, .bool false]) ∧ Below w.heap.size w w' := by
  have h1 : (nS m).size ≤ 1000000000 := by rw [nS_size]; omega
  have h2 : (nS 0).size ≤ 1000000000 := by rw [nS_size, ndg_small (by omega)]; omega
  have c1 := isNB_nS m
  have c2 := isNB_nS 0
  have c3 : ((nS 0).toList == [48]) = true := by rw [nS_t]; rfl
  go_enter Tryz.func134, Tryz.ntmps134
  go_wp2_with (go_at_call 94; (with_reducible refine (r1_may _ _ (by omega)).mono ?_); rintro e w' ⟨rfl, rfl⟩)
  go_ret3
  exact ⟨rfl, Below.refl _ _⟩
set_option maxHeartbeats 1000000 in
set_option maxRecDepth 100000 in
theorem r1_div (m n : Nat) (w : World) (hm : ndg m ≤ 900000000) (hn : ndg n ≤ 900000000) (h : 0 < n) :
    Calls Tryz.prog 134 #[.string (nS m), .string (nS n)] w fun e w' => e = .returned (.tuple #[.string (nS (m / n)), .string (nS (m % n)), .bool true]) ∧ Below w.heap.size w w' := by
  have h1 : (nS m).size ≤ 900000000 := by rw [nS_size]; exact hm
  have h2 : (nS n).size ≤ 900000000 := by rw [nS_size]; exact hn
  have hN1 : 1 ≤ (nS m).size := by rw [nS_size]; exact ndg_pos m
  have c1 := isNB_nS m
  have c2 := isNB_nS n
  have c3 : ((nS n).toList == [48]) = false := by rw [nS_t, beq_eq_false_iff_ne]; intro e; have := ntx_eq_zero.1 e; omega
  go_enter Tryz.func134, Tryz.ntmps134
  go_wp2_with (go_at_call 94; (with_reducible refine (r1_may _ _ (by omega)).mono ?_); rintro e w' ⟨rfl, rfl⟩)
  go_loopw [7, 8, 9] (fun q r i wr => ∃ i' Q R : Nat, i' ≤ (nS m).size ∧ i = .int .i64 i' ∧ q = .string (mkS (fdg i' Q)) ∧ r = .string (nS R) ∧ Hid (divs m n i' Q R) ∧ Below w.heap.size w wr) (fun _ _ i _ => (nS m).size - (intOf i).toNat)
  case atStart => exact ⟨0, 0, 0, by omega, rfl, rfl, rfl, ⟨by rw [Nat.sub_zero, nS_size]; rw [Nat.div_eq_of_lt (ndg_lt m)]; simp, h, by simp⟩, Below.refl _ _⟩
  case round =>
    obtain ⟨i, Q, R, hi, rfl, rfl, rfl, hd, hB⟩ := hrel
    by_cases hlt : i < (nS m).size
    · have hRn : R < n := hd.out.2.1
      have hR1 : ndg R ≤ ndg n := ndg_mono (by omega)
      have hR2 : (nS R).size ≤ 900000000 := by rw [nS_size]; omega
      have hdd := ndigit_lt m ((nS m).size - 1 - i)
      have hex := nS_digit m i hlt
      have hxs : (mkS [dg (ndigit m ((nS m).size - 1 - i))]).size ≤ 1 := by rw [sz, mkS_l]; exact Nat.le_refl _
      have hys : (nS R ++ mkS [dg (ndigit m ((nS m).size - 1 - i))]).size ≤ 900000001 := by rw [ByteArray.size_append]; omega
      have ht := Lib.hid (trim_snoc R _ hdd)
      go_wp2_with (go_at_call 123; (with_reducible refine (r1_trim _ _ (by omega)).mono ?_); rintro e w' ⟨rfl, rfl⟩)
      rw [ht.out]
      obtain ⟨wo, rfl⟩ : ∃ wo : World, wo = wr := ⟨_, rfl⟩
      have hT : 10 * R + ndigit m ((nS m).size - 1 - i) < 10 * n := by omega
      generalize hTe : 10 * R + ndigit m ((nS m).size - 1 - i) = T at *
      have HT := Lib.hid hTe
      clear hTe
      have hTn : ndg T ≤ ndg n + 1 := ndg_ten hT
      go_loopw [8, 10] (fun r d w2 => ∃ k R' : Nat, r = .string (nS R') ∧ d = .int .i64 k ∧ Hid (T = k * n + R') ∧ k < 10 ∧ R' ≤ T ∧ Below w.heap.size w w2) (fun _ d _ => 10 - (intOf d).toNat)
      case atStart => exact ⟨0, T, rfl, rfl, by simp [Hid], by omega, by omega, hB⟩
      case round =>
        obtain ⟨k, R', rfl, rfl, hk, hk10, hRT, hB2⟩ := hrel
        have hn' : ndg n ≤ 1000000000 := by omega
        have hR' : ndg R' ≤ 1000000000 := Nat.le_trans (ndg_mono hRT) (by omega)
        by_cases hle : n ≤ R'
        · have hc := cmpN_ge hle
          have hk1 := k_lt (k_step hk.out hle) hT
          go_wp2_with (first | (go_at_call 120; (with_reducible refine (r1_cmp _ _ _ hR' hn').mono ?_); rintro e w' ⟨rfl, rfl⟩) | (go_at_call 121; (with_reducible refine (r1_sub _ _ _ hR' hn' hle).mono ?_); rintro e w3 ⟨rfl, hB3⟩))
          go_roundw
          case rel => exact ⟨k + 1, R' - n, rfl, by go_num, k_step hk.out hle, hk1, by omega, hB2.trans (hB3.mono hB2.size)⟩
          case measure => simp [intOf]; omega
        · have hc := cmpN_lt (Nat.lt_of_not_le hle)
          have hfz := fdg_size i Q
          have hfs : (mkS (fdg i Q)).size ≤ 900000000 := by omega
          clear hfz
          have hqx : (ByteArray.extract { data := #[48, 49, 50, 51, 52, 53, 54, 55, 56, 57] } k (k + 1)).size ≤ 10 := by
            rw [of_digit _ hk10, sz]; exact Nat.le_of_ble_eq_true rfl
          have hq := Lib.hid (q_snoc (i := i) (Q := Q) hk10)
          go_wp2_with (go_at_call 120; (with_reducible refine (r1_cmp _ _ _ hR' hn').mono ?_); rintro e w' ⟨rfl, rfl⟩)
          go_roundw
          case rel => exact ⟨i + 1, 10 * Q + k, R', by omega, by go_num, by rw [hq.out], rfl, (divs_step hd.out hlt (HT.out.trans hk.out) (by omega)).1, hB2⟩
          case measure => simp [intOf]; omega
    · obtain rfl : i = (nS m).size := by omega
      have hfz := fdg_size (nS m).size Q
      have hfs : (mkS (fdg (nS m).size Q)).size ≤ 900000000 := by omega
      clear hfz
      have hq := Lib.hid (trim_fdg hN1 hd.out.2.2)
      go_wp2_with (go_at_call 123; (with_reducible refine (r1_trim _ _ (by omega)).mono ?_); rintro e w' ⟨rfl, rfl⟩)
      rw [hq.out]
      go_ret3
      obtain ⟨e1, e2⟩ := divs_end hd.out
      exact ⟨by subst e1; subst e2; rfl, hB⟩

def strVal : Value → Nat | .string s => nval s.data.toList | _ => 0
theorem strVal_nS (n : Nat) : strVal (.string (nS n)) = n := by simp only [strVal, nS_l, nval_ntx]
set_option maxHeartbeats 1000000 in
theorem r1_gcd (m n : Nat) (w : World) (hm : ndg m ≤ 900000000) (hn : ndg n ≤ 900000000) :
    Calls Tryz.prog 95 #[.string (nS m), .string (nS n)] w fun e w' => e = .returned (.string (nS (Nat.gcd m n))) ∧ Below w.heap.size w w' := by
  have h1 : (nS m).size ≤ 900000000 := by rw [nS_size]; exact hm
  have h2 : (nS n).size ≤ 900000000 := by rw [nS_size]; exact hn
  have c1 := isNB_nS m
  have c2 := isNB_nS n
  go_enter Tryz.func95, Tryz.ntmps95
  go_wp2_with (go_at_call 94; (with_reducible refine (r1_may _ _ (by omega)).mono ?_); rintro e w' ⟨rfl, rfl⟩)
  go_loopw [0, 1] (fun a b wr => ∃ x y : Nat, a = .string (nS x) ∧ b = .string (nS y) ∧ ndg x ≤ 900000000 ∧ ndg y ≤ 900000000 ∧ Hid (Nat.gcd x y = Nat.gcd m n) ∧ Below w.heap.size w wr) (fun _ b _ => strVal b)
  case atStart => exact ⟨m, n, rfl, rfl, hm, hn, rfl, Below.refl _ _⟩
  case round =>
    obtain ⟨x, y, rfl, rfl, hx, hy, hg, hB⟩ := hrel
    by_cases hz : y = 0
    · subst hz
      have c3 : ((nS 0).toList == [48]) = true := by rw [nS_t]; rfl
      have hg' := hg.out
      rw [Nat.gcd_zero_right] at hg'
      have HG := Lib.hid hg'
      clear hg'
      go_wp2
      go_ret
      exact ⟨by rw [← HG.out]; rfl, hB⟩
    · have c3 : ((nS y).toList == [48]) = false := by rw [nS_t, beq_eq_false_iff_ne]; intro e; exact hz (ntx_eq_zero.1 e)
      have hyp : 0 < y := by omega
      have hr : ndg (x % y) ≤ 900000000 := Nat.le_trans (ndg_mono (Nat.le_of_lt (Nat.mod_lt _ hyp))) hy
      have hl := Nat.mod_lt x hyp
      have HG := Lib.hid (show Nat.gcd y (x % y) = Nat.gcd m n by rw [← hg.out, Nat.gcd_comm x y, Nat.gcd_rec y x, Nat.gcd_comm])
      go_wp2_with (go_at_call 134; (with_reducible refine (r1_div _ _ _ hx hy hyp).mono ?_); rintro e w3 ⟨rfl, hB3⟩)
      go_roundw
      case rel => exact ⟨y, x % y, rfl, rfl, hy, hr, HG.out, hB.trans (hB3.mono hB.size)⟩
      case measure => simp [strVal_nS]; omega
end Go.Proofs.YtpoejheienohjaaGreatDoor
