/- Walks of nat: div (Knuth's algorithm D). -/
import Derived.Test.YtpoejheienohjaaGreatDoorNatF
namespace Go.Proofs.YtpoejheienohjaaGreatDoor
open Go.RowKit
set_option linter.unusedVariables false
set_option linter.unusedSimpArgs false

/-! ### The step of the long division: u from the limb j on, by V = lv v of n limbs -/
/-- What the test of a quotient sees: U is what is divided, V what it is divided by. -/
structure Win (U V v1 v2 H u2 T : Nat) : Prop where
  hU1 : (H * 10000 + u2) * T ≤ U
  hU2 : U < (H * 10000 + u2 + 1) * T
  hV1 : (v1 * 10000 + v2) * T ≤ V
  hV2 : V < (v1 * 10000 + v2 + 1) * T
  hv : 0 < v1
  hv2 : v2 < 10000
  hu2 : u2 < 10000
  hlt : U < V * 10000
def Trq (U V H v1 q r : Nat) : Prop := H = q * v1 + r ∧ U < (q + 1) * V
variable {U V v1 v2 H u2 T : Nat}
theorem Win.vT (h : Win U V v1 v2 H u2 T) : 10000 * T ≤ V := Nat.le_trans (Nat.mul_le_mul_right _ (by have := h.hv; omega)) h.hV1
theorem head_le {H Y u2 Z : Nat} (h1 : H < Y) (h2 : u2 < 10000) (h3 : Y * 10000 ≤ Z) : H * 10000 + u2 + 1 ≤ Z := by
  have h4 : (H + 1) * 10000 ≤ Y * 10000 := Nat.mul_le_mul_right _ h1
  rw [Nat.add_mul] at h4
  rw [Nat.add_assoc]
  exact Nat.le_trans (Nat.le_trans (Nat.add_le_add_left (Nat.succ_le_of_lt h2) _) (by rw [Nat.one_mul] at h4; exact h4)) h3
theorem Win.init (h : Win U V v1 v2 H u2 T) : Trq U V H v1 (H / v1) (H % v1) := by
  refine ⟨by rw [Nat.mul_comm]; exact (Nat.div_add_mod H v1).symm, ?_⟩
  have h1 : H < (H / v1 + 1) * v1 := by rw [Nat.mul_comm]; exact Nat.lt_mul_div_succ H h.hv
  refine Nat.lt_of_lt_of_le h.hU2 ?_
  have h2 : H * 10000 + u2 + 1 ≤ (H / v1 + 1) * (v1 * 10000 + v2) := by
    have h3 : (H / v1 + 1) * v1 * 10000 ≤ (H / v1 + 1) * (v1 * 10000 + v2) := by
      rw [Nat.mul_assoc]; exact Nat.mul_le_mul_left _ (Nat.le_add_right _ _)
    exact head_le h1 h.hu2 h3
  calc (H * 10000 + u2 + 1) * T ≤ (H / v1 + 1) * (v1 * 10000 + v2) * T := Nat.mul_le_mul_right _ h2
    _ = (H / v1 + 1) * ((v1 * 10000 + v2) * T) := Nat.mul_assoc _ _ _
    _ ≤ _ := Nat.mul_le_mul_left _ h.hV1
theorem Win.down (h : Win U V v1 v2 H u2 T) {q r : Nat} (t : Trq U V H v1 q r) (c : 10000 ≤ q ∨ r * 10000 + u2 < q * v2) : 0 < q ∧ Trq U V H v1 (q - 1) (r + v1) := by
  have hq : 0 < q := by
    rcases c with c | c
    · omega
    · rcases Nat.eq_zero_or_pos q with rfl | hq
      · rw [Nat.zero_mul] at c; omega
      · exact hq
  obtain ⟨p, rfl⟩ : ∃ p, q = p + 1 := ⟨q - 1, by omega⟩
  refine ⟨hq, ?_, ?_⟩
  · rw [t.1, Nat.add_sub_cancel, Nat.add_mul]; omega
  · rw [Nat.add_sub_cancel]
    rcases c with c | c
    · exact Nat.lt_of_lt_of_le h.hlt (by rw [Nat.mul_comm]; exact Nat.mul_le_mul_right _ c)
    · exact knuth_gt t.1 h.hU2 h.hV1 c
theorem Win.stop (h : Win U V v1 v2 H u2 T) {q r : Nat} (t : Trq U V H v1 q r) (hq : q < 10000) (c : q * v2 ≤ r * 10000 + u2) : (q - 1) * V ≤ U :=
  knuth_le t.1 h.hU1 h.hV2 h.vT (Nat.le_of_lt hq) c
theorem Win.H_lt (h : Win U V v1 v2 H u2 T) : H < (v1 + 1) * 10000 := by
  have h1 : (H * 10000) * T < ((v1 + 1) * 10000 * 10000) * T := by
    calc (H * 10000) * T ≤ (H * 10000 + u2) * T := Nat.mul_le_mul_right _ (Nat.le_add_right _ _)
      _ ≤ U := h.hU1
      _ < V * 10000 := h.hlt
      _ ≤ ((v1 * 10000 + v2 + 1) * T) * 10000 := Nat.mul_le_mul_right _ (Nat.le_of_lt h.hV2)
      _ = ((v1 * 10000 + v2 + 1) * 10000) * T := by rw [Nat.mul_right_comm]
      _ ≤ ((v1 + 1) * 10000 * 10000) * T := Nat.mul_le_mul_right _ (Nat.mul_le_mul_right _ (by have := h.hv2; omega))
  have := Nat.lt_of_mul_lt_mul_right h1
  omega
theorem Win.far (h : Win U V v1 v2 H u2 T) {q r : Nat} (t : Trq U V H v1 q r) (hr : 10000 ≤ r) : q < 10000 ∧ (q - 1) * V ≤ U := by
  have h1 := h.H_lt
  rw [t.1] at h1
  have hq : q < 10000 := by
    rcases Nat.lt_or_ge q 10000 with hq | hq
    · exact hq
    · have : 10000 * v1 ≤ q * v1 := Nat.mul_le_mul_right _ hq
      omega
  refine ⟨hq, h.stop t hq ?_⟩
  have h2 : q * v2 ≤ 10000 * 10000 := Nat.mul_le_mul (Nat.le_of_lt hq) (Nat.le_of_lt h.hv2)
  omega

theorem lv_low {l : List Nat} (h : isL l) (k : Nat) : lv (l.take k) < 10000 ^ k := by
  have h1 := lv_lt (isL_take h k)
  refine Nat.lt_of_lt_of_le h1 (Nat.pow_le_pow_right (by decide) ?_)
  rw [List.length_take]; exact Nat.min_le_left _ _
theorem lv_top2 {v : List Nat} {n : Nat} (hn : v.length = n + 2) : lv v = (v[n + 1] * 10000 + v[n]) * 10000 ^ n + lv (v.take n) := by
  have h1 := lv_take_succ v (n + 1) (by omega)
  have h2 := lv_take_succ v n (by omega)
  rw [List.take_of_length_le (by omega)] at h1
  rw [h1, h2, Nat.pow_succ, Nat.add_mul]
  rw [Nat.mul_comm (10000 ^ n) v[n], Nat.mul_comm (10000 ^ n * 10000), Nat.mul_assoc, Nat.mul_comm 10000 (10000 ^ n)]
  omega
theorem lv_zero_drop {l : List Nat} {k : Nat} (hk : k ≤ l.length) (h : lv l < 10000 ^ k) : lv (l.drop k) = 0 ∧ lv (l.take k) = lv l := by
  have h1 := lv_split l k hk
  rcases Nat.eq_zero_or_pos (lv (l.drop k)) with h0 | h0
  · exact ⟨h0, by rw [h1, h0]; simp⟩
  · have : 10000 ^ k ≤ 10000 ^ k * lv (l.drop k) := Nat.le_mul_of_pos_right _ h0
    omega
theorem lv_top3 {l : List Nat} {n : Nat} (hn : n + 3 ≤ l.length) (h : lv l < 10000 ^ (n + 3)) : lv l = ((l[n + 2] * 10000 + l[n + 1]) * 10000 + l[n]) * 10000 ^ n + lv (l.take n) := by
  rw [← (lv_zero_drop hn h).2, lv_take_succ l (n + 2) (by omega), lv_take_succ l (n + 1) (by omega), lv_take_succ l n (by omega)]
  simp only [Nat.pow_succ]
  generalize l[n + 2] = a
  generalize l[n + 1] = b
  generalize l[n] = c
  generalize lv (l.take n) = d
  generalize 10000 ^ n = P
  simp only [Nat.add_mul]
  rw [Nat.mul_comm P c, show P * 10000 * b = b * 10000 * P by rw [Nat.mul_comm, Nat.mul_comm P, Nat.mul_assoc], show P * 10000 * 10000 * a = a * 10000 * 10000 * P by simp only [Nat.mul_comm, Nat.mul_left_comm, Nat.mul_assoc]]
  omega

/-- The state ahead of the limb j: u is what is left, o what is found. -/
def dvI (u0 v : List Nat) (L n j : Nat) (u o : List Nat) : Prop := isL u ∧ isL o ∧ u.length = L ∧ o.length = L - n ∧ (∀ i, i < j → o.getD i 0 = 0) ∧ lv u0 = lv u + lv v * lv o ∧ lv u < lv v * 10000 ^ j
theorem dvI.win {u0 v u o : List Nat} {L n j : Nat} (h : dvI u0 v L (n + 2) (j + 1) u o) (hv : isL v) (hn : v.length = n + 2) (hL : j + n + 3 ≤ L) (hv0 : 0 < v[n + 1]) :
    Win (lv (u.drop j)) (lv v) v[n + 1] v[n] ((u[j + (n + 2)]'(by rw [h.2.2.1]; omega)) * 10000 + (u[j + (n + 1)]'(by rw [h.2.2.1]; omega))) (u[j + n]'(by rw [h.2.2.1]; omega)) (10000 ^ n) := by
  obtain ⟨h1, h2, h3, h4, h5, h6, h7⟩ := h
  have hs := lv_split u j (by omega)
  have hU : lv (u.drop j) < lv v * 10000 := by
    have : 10000 ^ j * lv (u.drop j) < 10000 ^ j * (lv v * 10000) := by
      have e : lv v * 10000 ^ (j + 1) = 10000 ^ j * (lv v * 10000) := by rw [Nat.pow_succ, Nat.mul_left_comm]
      rw [← e]; omega
    exact Nat.lt_of_mul_lt_mul_left this
  have hV := lv_lt hv
  rw [hn] at hV
  have hU' : lv (u.drop j) < 10000 ^ (n + 3) := by
    have : lv v * 10000 ≤ 10000 ^ (n + 2) * 10000 := Nat.mul_le_mul_right _ (Nat.le_of_lt hV)
    rw [← Nat.pow_succ] at this
    exact Nat.lt_of_lt_of_le hU this
  have e1 := lv_top3 (l := u.drop j) (n := n) (by rw [List.length_drop]; omega) hU'
  simp only [List.getElem_drop] at e1
  have e2 := lv_top2 hn
  have l1 := lv_low (isL_drop h1 j) n
  have l2 := lv_low hv n
  exact ⟨by rw [e1]; exact Nat.le_add_right _ _, by rw [e1, Nat.add_mul _ 1, Nat.one_mul]; omega, by rw [e2]; exact Nat.le_add_right _ _, by rw [e2, Nat.add_mul _ 1, Nat.one_mul]; omega, hv0, isL_get hv _, isL_get h1 _, hU⟩
theorem getD_set {l : List Nat} {i j x : Nat} : (l.set i x).getD j 0 = if i = j ∧ j < l.length then x else l.getD j 0 := by
  simp only [List.getD, List.getElem?_set]
  by_cases h : i = j
  · subst h
    by_cases hl : i < l.length
    · simp [hl]
    · simp [hl]
  · simp [h]
/-- The quotient is right: the next state. -/
theorem dvI.next {u0 v u o u' : List Nat} {L n j q : Nat} (h : dvI u0 v L n (j + 1) u o) (hj : j < L - n) (hjl : j ≤ L) (hq : q < 10000) (hu : isL u') (hl : u'.length = u.length) (he : lv u' + q * 10000 ^ j * lv v = lv u) (hlt : lv (u.drop j) < (q + 1) * lv v) :
    dvI u0 v L n j u' (o.set j q) := by
  obtain ⟨h1, h2, h3, h4, h5, h6, h7⟩ := h
  refine ⟨hu, isL_set h2 _ hq, by rw [hl, h3], by rw [List.length_set, h4], ?_, ?_, ?_⟩
  · intro i hi
    rw [getD_set, if_neg (by omega)]
    exact h5 i (by omega)
  · have h8 := lv_set (l := o) (i := j) (by omega) q
    have h9 : o[j]'(by omega) = 0 := by
      have := h5 j (by omega)
      rw [List.getD, List.getElem?_eq_getElem (by omega)] at this
      exact this
    rw [h9, Nat.mul_zero, Nat.add_zero] at h8
    rw [h6, h8, ← he, Nat.mul_add, Nat.mul_comm (lv v) (10000 ^ j * q), Nat.mul_comm (10000 ^ j) q]
    omega
  · have hs := lv_split u j (by omega)
    have hlo := lv_low h1 j
    rw [Nat.mul_comm (lv v)]
    have e1 : q * 10000 ^ j * lv v = 10000 ^ j * (q * lv v) := by rw [Nat.mul_comm q, Nat.mul_assoc]
    rw [e1] at he
    rw [Nat.add_mul, Nat.one_mul] at hlt
    have e2 : 10000 ^ j * (lv (u.drop j) + 1) ≤ 10000 ^ j * (q * lv v + lv v) := Nat.mul_le_mul_left _ hlt
    rw [Nat.mul_add, Nat.mul_add, Nat.mul_one] at e2
    omega
theorem dvI.low {u0 v u o : List Nat} {L n j : Nat} (h : dvI u0 v L n (j + 1) u o) (hv : isL v) (hn : v.length = n) (hL : j + n + 1 ≤ L) : lv (u.drop (j + (n + 1))) = 0 ∧ lv v < 10000 ^ n := by
  obtain ⟨h1, h2, h3, h4, h5, h6, h7⟩ := h
  have hV := lv_lt hv
  rw [hn] at hV
  have : lv v * 10000 ^ (j + 1) ≤ 10000 ^ n * 10000 ^ (j + 1) := Nat.mul_le_mul_right _ (Nat.le_of_lt hV)
  rw [← Nat.pow_add] at this
  exact ⟨(lv_zero_drop (k := j + (n + 1)) (by omega) (by rw [show j + (n + 1) = n + (j + 1) by omega]; omega)).1, hV⟩
theorem lv_lt_of {u' : List Nat} {k : Nat} (hu : isL u') (hk : k ≤ u'.length) (h : lv (u'.drop k) = 0) : lv u' < 10000 ^ k := by
  rw [lv_split u' k hk, h, Nat.mul_zero, Nat.add_zero]
  exact lv_low hu k
/-- Nothing is missing: the quotient that was tried is right. -/
theorem dvI.hit {u0 v u o u' : List Nat} {L n j q : Nat} (h : dvI u0 v L n (j + 1) u o) (hn : v.length = n) (hL : j + n + 1 ≤ L) (hq : q < 10000) (hlt : lv (u.drop j) < (q + 1) * lv v) (ht : takI u v q j (n + 1) u' 0) : dvI u0 v L n j u' (o.set j q) := by
  obtain ⟨t1, t2, t3, t4, t5⟩ := ht
  rw [List.take_of_length_le (by omega)] at t5
  exact h.next (by omega) (by omega) hq t1 t2 (by rw [t5]; simp) hlt
/-- Something is missing: it was one above, and what is given back makes it right. -/
theorem dvI.miss {u0 v u o u' u'' : List Nat} {L n j q c c2 : Nat} (h : dvI u0 v L n (j + 1) u o) (hv : isL v) (hn : v.length = n) (hL : j + n + 1 ≤ L) (hq : q < 10000) (hge : (q - 1) * lv v ≤ lv (u.drop j)) (hc : 0 < c) (ht : takI u v q j (n + 1) u' c) (hg : givI u' v j (n + 1) u'' c2) :
    0 < q ∧ dvI u0 v L n j u'' (o.set j (q - 1)) := by
  obtain ⟨t1, t2, t3, t4, t5⟩ := ht
  obtain ⟨g1, g2, g3, g4, g5⟩ := hg
  obtain ⟨hz, hV⟩ := h.low hv hn hL
  have hul := h.2.2.1
  have hu1 : isL u := h.1
  rw [List.take_of_length_le (by omega)] at t5 g5
  have l1 : lv u' < 10000 ^ (j + (n + 1)) := lv_lt_of t1 (by omega) (by rw [t3]; exact hz)
  have l2 : lv u'' < 10000 ^ (j + (n + 1)) := lv_lt_of g1 (by omega) (by rw [g3, t3]; exact hz)
  have hs := lv_split u j (by omega)
  have hlo := lv_low hu1 j
  have e1 : q * 10000 ^ j * lv v = 10000 ^ j * (q * lv v) := by rw [Nat.mul_comm q, Nat.mul_assoc]
  rw [e1] at t5
  have hcP : 10000 ^ (j + (n + 1)) ≤ c * 10000 ^ (j + (n + 1)) := Nat.le_mul_of_pos_left _ hc
  have hlt : lv (u.drop j) < q * lv v := by
    have : 10000 ^ j * lv (u.drop j) < 10000 ^ j * (q * lv v) := by omega
    exact Nat.lt_of_mul_lt_mul_left this
  have hq0 : 0 < q := by
    rcases Nat.eq_zero_or_pos q with rfl | hq0
    · rw [Nat.zero_mul] at hlt; omega
    · exact hq0
  obtain ⟨p, rfl⟩ : ∃ p, q = p + 1 := ⟨q - 1, by omega⟩
  rw [Nat.add_sub_cancel] at hge ⊢
  rw [Nat.add_mul, Nat.one_mul] at t5
  have e2 : 10000 ^ j * (p * lv v) ≤ 10000 ^ j * lv (u.drop j) := Nat.mul_le_mul_left _ hge
  have e3 : 10000 ^ j * lv v ≤ 10000 ^ (j + (n + 1)) := by
    rw [Nat.pow_add]
    refine Nat.mul_le_mul_left _ (Nat.le_trans (Nat.le_of_lt hV) (Nat.pow_le_pow_right (by decide) (by omega)))
  have hVp : 10000 ^ j * lv v < 10000 ^ (j + (n + 1)) := by
    rw [Nat.pow_add]
    refine Nat.mul_lt_mul_of_pos_left (Nat.lt_of_lt_of_le hV (Nat.pow_le_pow_right (by decide) (by omega))) (Nat.pow_pos (by decide))
  rw [Nat.mul_add] at t5
  have hc1 : c = 1 := by
    rcases Nat.lt_or_ge c 2 with h2 | h2
    · omega
    · have : 2 * 10000 ^ (j + (n + 1)) ≤ c * 10000 ^ (j + (n + 1)) := Nat.mul_le_mul_right _ h2
      omega
  subst hc1
  rw [Nat.one_mul] at t5
  have hc2 : c2 = 1 := by
    rcases Nat.lt_or_ge c2 1 with h2 | h2
    · obtain rfl : c2 = 0 := by omega
      rw [Nat.zero_mul] at g5
      omega
    · omega
  subst hc2
  rw [Nat.one_mul] at g5
  refine ⟨hq0, h.next (by omega) (by omega) (by omega) g1 (by rw [g2, t2]) ?_ hlt⟩
  rw [show p * 10000 ^ j * lv v = 10000 ^ j * (p * lv v) by rw [Nat.mul_comm p, Nat.mul_assoc]]
  omega
theorem dvI.start {a v : List Nat} {n : Nat} (ha : isL a) (hv : isL v) (hn : v.length = n + 1) (hv0 : 0 < v[n]) (hl : n + 1 ≤ a.length + 2) :
    dvI (a ++ [0, 0]) v (a.length + 2) (n + 1) (a.length + 2 - (n + 1)) (a ++ [0, 0]) (List.replicate (a.length + 2 - (n + 1)) 0) := by
  refine ⟨isL_append ha (by intro x hx; simp at hx; omega), isL_rep _, by simp, by simp, ?_, ?_, ?_⟩
  · intro i hi
    rw [List.getD, List.getElem?_replicate, if_pos hi]; rfl
  · rw [lv_rep, Nat.mul_zero, Nat.add_zero]
  · have e : lv (a ++ [0, 0]) = lv a := by rw [lv_append]; simp [lv]
    rw [e]
    have h1 := lv_lt ha
    have h2 : 10000 ^ n ≤ lv v := by
      rw [← List.take_of_length_le (l := v) (i := n + 1) (by omega), lv_take_succ v n (by omega)]
      have : 10000 ^ n * 1 ≤ 10000 ^ n * v[n] := Nat.mul_le_mul_left _ hv0
      omega
    have h3 : 10000 ^ n * 10000 ^ (a.length + 2 - (n + 1)) ≤ lv v * 10000 ^ (a.length + 2 - (n + 1)) := Nat.mul_le_mul_right _ h2
    rw [← Nat.pow_add] at h3
    have h4 : 10000 ^ a.length ≤ 10000 ^ (n + (a.length + 2 - (n + 1))) := Nat.pow_le_pow_right (by decide) (by omega)
    omega
/-- What is found at the end. -/
theorem dvI.done {a b s : Nat} {u0 v u o : List Nat} {L n : Nat} (h : dvI u0 v L n 0 u o) (hs : 0 < s) (hu : lv u0 = a * s) (hv : lv v = b * s) (hb : 0 < b) : lv o = a / b ∧ lv u / s = a % b := by
  obtain ⟨_, _, _, _, _, h6, h7⟩ := h
  rw [hu, hv] at h6
  rw [hv, Nat.pow_zero, Nat.mul_one] at h7
  have e1 : a * s / (b * s) = a / b := Nat.mul_div_mul_right a b hs
  have e2 : a * s % (b * s) = (a % b) * s := Nat.mul_mod_mul_right s a b
  have hbs : 0 < b * s := Nat.mul_pos hb hs
  constructor
  · rw [← e1, h6, Nat.add_mul_div_left _ _ hbs, Nat.div_eq_of_lt h7, Nat.zero_add]
  · have : lv u = (a % b) * s := by rw [← e2, h6, Nat.add_mul_mod_self_left, Nat.mod_eq_of_lt h7]
    rw [this, Nat.mul_div_cancel _ hs]
end Go.Proofs.YtpoejheienohjaaGreatDoor
