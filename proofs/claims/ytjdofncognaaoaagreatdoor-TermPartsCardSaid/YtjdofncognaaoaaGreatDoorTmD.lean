/- Numbers as texts: how often a natural can be divided. -/
import Derived.Test.YtjdofncognaaoaaGreatDoorTmC
namespace Go.Proofs.YtjdofncognaaoaaGreatDoor
open Go.RowKit
set_option linter.unusedVariables false
set_option linter.unusedSimpArgs false

/-- How often a natural can be divided by another one, and what is left. -/
def vdiv (b n : Nat) : Nat × Nat := if h : 1 < b ∧ 0 < n ∧ n % b = 0 then ((vdiv b (n / b)).1 + 1, (vdiv b (n / b)).2) else (0, n)
termination_by n
decreasing_by all_goals exact Nat.div_lt_self h.2.1 h.1
theorem vdiv_yes {b n : Nat} (h1 : 1 < b) (h2 : 0 < n) (h3 : n % b = 0) : vdiv b n = ((vdiv b (n / b)).1 + 1, (vdiv b (n / b)).2) := by
  rw [vdiv, dif_pos ⟨h1, h2, h3⟩]
theorem vdiv_no {b n : Nat} (h : n % b ≠ 0) : vdiv b n = (0, n) := by
  rw [vdiv, dif_neg (fun k => h k.2.2)]
theorem vdiv_spec {b : Nat} (h1 : 1 < b) : ∀ n, 0 < n → n = b ^ (vdiv b n).1 * (vdiv b n).2 ∧ (vdiv b n).2 % b ≠ 0 ∧ 0 < (vdiv b n).2 := by
  intro n
  induction n using Nat.strongRecOn with
  | ind n ih =>
    intro h2
    by_cases h3 : n % b = 0
    · rw [vdiv_yes h1 h2 h3]
      have hd : n = b * (n / b) := by have := Nat.div_add_mod n b; omega
      have hp : 0 < n / b := by
        rcases Nat.eq_zero_or_pos (n / b) with h | h
        · rw [h] at hd; omega
        · exact h
      obtain ⟨e1, e2, e3⟩ := ih (n / b) (Nat.div_lt_self h2 h1) hp
      refine ⟨?_, e2, e3⟩
      show n = b ^ ((vdiv b (n / b)).1 + 1) * (vdiv b (n / b)).2
      rw [Nat.pow_succ, Nat.mul_comm (b ^ _) b, Nat.mul_assoc, ← e1]
      exact hd
    · rw [vdiv_no h3]
      exact ⟨by simp, h3, h2⟩
/-- A denominator's places. -/
def dplaces (d : Nat) : Option Nat := if (vdiv 5 (vdiv 2 d).2).2 = 1 then some (max (vdiv 2 d).1 (vdiv 5 (vdiv 2 d).2).1) else none
/-- The reference's loop: by two where that goes, else by five. -/
theorem dplaces_two {d : Nat} (h0 : 0 < d) (h : d % 2 = 0) : (vdiv 2 d) = ((vdiv 2 (d / 2)).1 + 1, (vdiv 2 (d / 2)).2) := vdiv_yes (by omega) h0 h
theorem odd_five {d : Nat} (h : d % 2 ≠ 0) (h5 : d % 5 = 0) : (d / 5) % 2 ≠ 0 := by omega
/-- What the reference's loop has, where it stands at d. -/
def rplaces (d two five : Nat) : Option Nat := if (vdiv 5 (vdiv 2 d).2).2 = 1 then some (max (two + (vdiv 2 d).1) (five + (vdiv 5 (vdiv 2 d).2).1)) else none
theorem rplaces_start (d : Nat) : rplaces d 0 0 = dplaces d := by unfold rplaces dplaces; simp
theorem rplaces_two {d two five : Nat} (h0 : 0 < d) (h : d % 2 = 0) : rplaces d two five = rplaces (d / 2) (two + 1) five := by
  unfold rplaces
  rw [dplaces_two h0 h]
  dsimp only
  rw [show two + ((vdiv 2 (d / 2)).1 + 1) = two + 1 + (vdiv 2 (d / 2)).1 by omega]
theorem rplaces_five {d two five : Nat} (h0 : 0 < d) (h2 : d % 2 ≠ 0) (h : d % 5 = 0) : rplaces d two five = rplaces (d / 5) two (five + 1) := by
  unfold rplaces
  rw [vdiv_no h2, vdiv_no (odd_five h2 h)]
  dsimp only
  rw [vdiv_yes (by omega) h0 h]
  dsimp only
  rw [show five + ((vdiv 5 (d / 5)).1 + 1) = five + 1 + (vdiv 5 (d / 5)).1 by omega]
theorem rplaces_none {d two five : Nat} (h1 : d ≠ 1) (h2 : d % 2 ≠ 0) (h : d % 5 ≠ 0) : rplaces d two five = none := by
  unfold rplaces
  rw [vdiv_no h2]
  dsimp only
  rw [vdiv_no h]
  exact if_neg h1
theorem rplaces_end (two five : Nat) : rplaces 1 two five = some (max two five) := by
  unfold rplaces
  rw [vdiv_no (b := 2) (n := 1) (by omega)]
  dsimp only
  rw [vdiv_no (b := 5) (n := 1) (by omega)]
  simp
theorem dplaces_dvd {d n : Nat} (h0 : 0 < d) (h : dplaces d = some n) : d ∣ 10 ^ n := by
  unfold dplaces at h
  split at h
  next hr =>
    injection h with h
    obtain ⟨e1, _, e3⟩ := vdiv_spec (b := 2) (by omega) d h0
    obtain ⟨f1, _, _⟩ := vdiv_spec (b := 5) (by omega) _ e3
    rw [hr, Nat.mul_one] at f1
    rw [f1] at e1
    rw [e1, ← h, show (10 : Nat) = 2 * 5 by rfl, Nat.mul_pow]
    exact Nat.mul_dvd_mul (Nat.pow_dvd_pow 2 (Nat.le_max_left _ _)) (Nat.pow_dvd_pow 5 (by rw [← e1] at *; exact Nat.le_max_right _ _))
  next => cases h
end Go.Proofs.YtjdofncognaaoaaGreatDoor
