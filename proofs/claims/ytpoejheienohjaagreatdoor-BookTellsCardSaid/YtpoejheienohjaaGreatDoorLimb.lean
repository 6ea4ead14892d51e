/- Naturals as limbs of four decimal digits, the lowest one first: plain lemmas, no program in sight. -/
import Derived.Test.YtpoejheienohjaaGreatDoorNatA
import Derived.Test.YtpoejheienohjaaGreatDoorRefA
namespace Go.Proofs.YtpoejheienohjaaGreatDoor
set_option linter.unusedVariables false
set_option linter.unusedSimpArgs false

def lv : List Nat → Nat
  | [] => 0
  | x :: r => x + 10000 * lv r
def isL (l : List Nat) : Prop := ∀ x ∈ l, x < 10000
def lim (n : Nat) : List Nat := if h : n = 0 then [] else (n % 10000) :: lim (n / 10000)
termination_by n
decreasing_by omega
theorem lim_zero : lim 0 = [] := by rw [lim]; simp
theorem lim_pos {n : Nat} (h : 0 < n) : lim n = (n % 10000) :: lim (n / 10000) := by rw [lim, dif_neg (by omega)]
theorem lv_lim (n : Nat) : lv (lim n) = n := by
  induction n using Nat.strongRecOn with
  | ind n ih =>
    by_cases h : n = 0
    · subst h; rw [lim_zero]; rfl
    · rw [lim_pos (by omega), lv, ih _ (by omega)]; omega
theorem isL_lim (n : Nat) : isL (lim n) := by
  induction n using Nat.strongRecOn with
  | ind n ih =>
    by_cases h : n = 0
    · subst h; rw [lim_zero]; intro x hx; cases hx
    · rw [lim_pos (by omega)]
      intro x hx
      rcases List.mem_cons.1 hx with rfl | hx
      · omega
      · exact ih _ (by omega) x hx
theorem lim_inj {a b : Nat} (h : lim a = lim b) : a = b := by rw [← lv_lim a, h, lv_lim]
theorem isL_nil : isL [] := fun _ h => by cases h
theorem isL_append {a b : List Nat} (ha : isL a) (hb : isL b) : isL (a ++ b) := fun x h => (List.mem_append.1 h).elim (ha x) (hb x)
theorem isL_take {l : List Nat} (h : isL l) (k : Nat) : isL (l.take k) := fun x hx => h x (List.mem_of_mem_take hx)
theorem isL_drop {l : List Nat} (h : isL l) (k : Nat) : isL (l.drop k) := fun x hx => h x (List.mem_of_mem_drop hx)
theorem isL_set {l : List Nat} (h : isL l) (k : Nat) {x : Nat} (hx : x < 10000) : isL (l.set k x) := fun y hy => by
  rcases List.mem_or_eq_of_mem_set hy with h1 | rfl
  · exact h y h1
  · exact hx
theorem isL_get {l : List Nat} (h : isL l) {k : Nat} (hk : k < l.length) : l[k] < 10000 := h _ (List.getElem_mem _)
theorem isL_rep (n : Nat) : isL (List.replicate n 0) := fun x hx => by rw [(List.mem_replicate.1 hx).2]; omega
theorem lv_rep (n : Nat) : lv (List.replicate n 0) = 0 := by
  induction n with
  | zero => rfl
  | succ n ih => rw [List.replicate_succ, lv, ih]
theorem lv_append (a b : List Nat) : lv (a ++ b) = lv a + 10000 ^ a.length * lv b := by
  induction a with
  | nil => simp [lv]
  | cons x a ih => rw [List.cons_append, lv, ih, lv, List.length_cons, Nat.pow_succ, Nat.mul_add, Nat.add_assoc, Nat.mul_comm (10000 ^ a.length) 10000, Nat.mul_assoc]
theorem lv_snoc (a : List Nat) (x : Nat) : lv (a ++ [x]) = lv a + 10000 ^ a.length * x := by rw [lv_append]; simp [lv]
theorem lv_lt {l : List Nat} (h : isL l) : lv l < 10000 ^ l.length := by
  induction l with
  | nil => simp [lv]
  | cons x l ih =>
    have h1 := h x (by simp)
    have h2 := ih fun y hy => h y (by simp [hy])
    rw [lv, List.length_cons, Nat.pow_succ]
    omega
theorem lv_split (l : List Nat) (k : Nat) (hk : k ≤ l.length) : lv l = lv (l.take k) + 10000 ^ k * lv (l.drop k) := by
  conv => lhs; rw [← List.take_append_drop k l]
  rw [lv_append, List.length_take, Nat.min_eq_left hk]
theorem lv_take_succ (l : List Nat) (k : Nat) (hk : k < l.length) : lv (l.take (k + 1)) = lv (l.take k) + 10000 ^ k * l[k] := by
  rw [List.take_succ_eq_append_getElem hk, lv_snoc, List.length_take, Nat.min_eq_left (by omega)]
theorem lim_of {l : List Nat} (h : isL l) (ht : ∀ x, l.getLast? = some x → x ≠ 0) : l = lim (lv l) := by
  induction l with
  | nil => rw [lv, lim_zero]
  | cons x l ih =>
    have h1 := h x (by simp)
    cases l with
    | nil =>
      have := ht x (by simp)
      rw [lv, lv, Nat.mul_zero, Nat.add_zero, lim_pos (by omega), Nat.mod_eq_of_lt h1, Nat.div_eq_of_lt h1, lim_zero]
    | cons y r =>
      have ih' := ih (fun z hz => h z (by simp [hz])) (fun z hz => ht z (by rw [List.getLast?_cons_cons]; exact hz))
      have hp : 0 < lv (y :: r) := by
        rcases Nat.eq_zero_or_pos (lv (y :: r)) with h0 | h0
        · rw [h0, lim_zero] at ih'; cases ih'
        · exact h0
      rw [lv, lim_pos (by omega), Nat.add_mul_mod_self_left, Nat.mod_eq_of_lt h1, Nat.add_mul_div_left _ _ (by omega), Nat.div_eq_of_lt h1, Nat.zero_add, ← ih']
theorem take_lim {l : List Nat} (h : isL l) : l.take (lim (lv l)).length = lim (lv l) := by
  induction l with
  | nil => rw [lv, lim_zero]; rfl
  | cons x r ih =>
    have h1 := h x (by simp)
    have ih' := ih fun y hy => h y (by simp [hy])
    by_cases h0 : lv (x :: r) = 0
    · rw [h0, lim_zero]; rfl
    · rw [lim_pos (by omega), lv, Nat.add_mul_mod_self_left, Nat.mod_eq_of_lt h1, Nat.add_mul_div_left _ _ (by omega), Nat.div_eq_of_lt h1, Nat.zero_add, List.length_cons, List.take_succ_cons, ih']
theorem lim_last (n : Nat) : ∀ x, (lim n).getLast? = some x → x ≠ 0 := by
  induction n using Nat.strongRecOn with
  | ind n ih =>
    intro x hx
    by_cases h : n = 0
    · subst h; rw [lim_zero] at hx; cases hx
    · rw [lim_pos (by omega)] at hx
      by_cases h2 : n / 10000 = 0
      · rw [h2, lim_zero] at hx
        have : n % 10000 = x := by simpa using hx
        omega
      · refine ih (n / 10000) (by omega) x ?_
        rw [lim_pos (n := n / 10000) (by omega)] at hx ⊢
        rw [List.getLast?_cons_cons] at hx
        exact hx
theorem lim_lt (n : Nat) : n < 10000 ^ (lim n).length := by
  have := lv_lt (isL_lim n)
  rwa [lv_lim] at this
theorem lim_ge {n : Nat} (h : 0 < n) : 10000 ^ ((lim n).length - 1) ≤ n := by
  induction n using Nat.strongRecOn with
  | ind n ih =>
    rw [lim_pos h, List.length_cons, Nat.add_sub_cancel]
    by_cases h2 : n / 10000 = 0
    · rw [h2, lim_zero]; simp only [List.length_nil, Nat.pow_zero]; omega
    · have h3 := ih _ (by omega) (by omega : 0 < n / 10000)
      have h4 : (lim (n / 10000)).length ≠ 0 := by rw [lim_pos (by omega)]; simp
      calc 10000 ^ (lim (n / 10000)).length = 10000 ^ ((lim (n / 10000)).length - 1) * 10000 := by
            rw [← Nat.pow_succ]; congr 1; omega
        _ ≤ n / 10000 * 10000 := Nat.mul_le_mul_right _ h3
        _ ≤ n := Nat.div_mul_le_self _ _
theorem lim_len_le {n k : Nat} (h : n < 10000 ^ k) : (lim n).length ≤ k := by
  rcases Nat.eq_zero_or_pos n with rfl | h0
  · rw [lim_zero]; simp
  · have h1 := lim_ge h0
    have h2 : 10000 ^ ((lim n).length - 1) < 10000 ^ k := Nat.lt_of_le_of_lt h1 h
    have := (Nat.pow_lt_pow_iff_right (by omega : 1 < 10000)).1 h2
    omega
theorem lim_len_l {l : List Nat} (h : isL l) : (lim (lv l)).length ≤ l.length := lim_len_le (lv_lt h)
theorem lim_len_ndg (n : Nat) : (lim n).length ≤ ndg n := lim_len_le (Nat.lt_of_lt_of_le (ndg_lt n) (Nat.pow_le_pow_left (by omega) _))
theorem lim_len_mono {m n : Nat} (h : m ≤ n) : (lim m).length ≤ (lim n).length := lim_len_le (Nat.lt_of_le_of_lt h (lim_lt n))
theorem lim_nil {n : Nat} : lim n = [] ↔ n = 0 := ⟨fun h => lim_inj (h.trans lim_zero.symm), fun h => h ▸ lim_zero⟩
theorem lim_len_zero {n : Nat} : (lim n).length = 0 ↔ n = 0 := by rw [List.length_eq_zero_iff, lim_nil]

/-! ### Their order -/
theorem cmpFrom_take {xs ys : List Nat} (hx : isL xs) (hy : isL ys) (hl : xs.length = ys.length) : ∀ k, k ≤ xs.length → cmpFrom xs ys (List.range k).reverse = Lib.compareInt (lv (xs.take k) : Nat) (lv (ys.take k) : Nat)
  | 0, _ => by simp [cmpFrom, lv, Lib.compareInt]
  | k + 1, h => by
    have h1 : k < ys.length := by omega
    have e1 := lv_take_succ xs k h
    have e2 := lv_take_succ ys k h1
    have b1 := lv_lt (isL_take hx k)
    have b2 := lv_lt (isL_take hy k)
    rw [List.length_take, Nat.min_eq_left (by omega)] at b1 b2
    rw [List.range_succ, List.reverse_append, List.reverse_singleton, List.singleton_append, cmpFrom, List.getElem?_eq_getElem h, List.getElem?_eq_getElem h1, e1, e2]
    by_cases he : xs[k] = ys[k]
    · rw [if_pos (by rw [he]), cmpFrom_take hx hy hl k (by omega), he]
      unfold Lib.compareInt
      split <;> split <;> (try split) <;> (try split) <;> first | rfl | omega
    · rw [if_neg (by simpa using he)]
      have g1 : xs.getD k 0 = xs[k] := by rw [List.getD, List.getElem?_eq_getElem h]; rfl
      have g2 : ys.getD k 0 = ys[k] := by rw [List.getD, List.getElem?_eq_getElem h1]; rfl
      rw [g1, g2]
      unfold Lib.compareInt
      rcases Nat.lt_or_ge xs[k] ys[k] with hlt | hge
      · have : 10000 ^ k * (xs[k] + 1) ≤ 10000 ^ k * ys[k] := Nat.mul_le_mul_left _ hlt
        rw [Nat.mul_add] at this
        rw [if_pos (by omega), if_pos (by omega)]
      · have hgt : ys[k] < xs[k] := by omega
        have : 10000 ^ k * (ys[k] + 1) ≤ 10000 ^ k * xs[k] := Nat.mul_le_mul_left _ hgt
        rw [Nat.mul_add] at this
        rw [if_neg (by omega), if_pos (by omega), if_neg (by omega), if_pos (by omega)]
theorem cmpLs_lim (a b : Nat) : cmpLs (lim a) (lim b) = cmpN a b := by
  have hc : Lib.compareInt (a : Nat) (b : Nat) = cmpN a b := by
    unfold Lib.compareInt cmpN
    split <;> split <;> (try split) <;> (try split) <;> first | rfl | omega
  unfold cmpLs
  by_cases hl : (lim a).length = (lim b).length
  · rw [if_neg (by simpa using hl)]
    have hr : ((List.finRange (lim a).length).reverse.map (·.1)) = (List.range (lim a).length).reverse := by
      rw [List.map_reverse]
      congr 1
      apply List.ext_getElem <;> simp
    rw [hr, cmpFrom_take (isL_lim a) (isL_lim b) hl _ (Nat.le_refl _), List.take_length, List.take_of_length_le (by omega), lv_lim, lv_lim, hc]
  · rw [if_pos hl, ← hc]
    unfold Lib.compareInt
    rcases Nat.lt_or_ge (lim a).length (lim b).length with h | h
    · have : a < b := by
        rcases Nat.lt_or_ge a b with h1 | h1
        · exact h1
        · have := lim_len_mono h1; omega
      rw [if_pos (by omega), if_pos (by omega)]
    · have : b < a := by
        rcases Nat.lt_or_ge b a with h1 | h1
        · exact h1
        · have := lim_len_mono h1; omega
      rw [if_neg (by omega), if_pos (by omega), if_neg (by omega), if_pos (by omega)]

/-! ### Their texts -/
theorem fdg_pad (j : Nat) (n : Nat) (h : n < 10 ^ j) : ∀ k, fdg (k + j) n = List.replicate k 48 ++ fdg j n
  | 0 => by simp
  | k + 1 => by
    rw [show k + 1 + j = (k + j) + 1 by omega, fdg_cons, fdg_pad j n h k, List.replicate_succ, List.cons_append]
    congr 1
    have h1 : n < 10 ^ (k + j) := Nat.lt_of_lt_of_le h (Nat.pow_le_pow_right (by omega) (by omega))
    unfold ndigit
    rw [Nat.div_eq_of_lt h1]; rfl
theorem fdg4 {x : Nat} (h : x < 10000) : fdg 4 x = List.replicate (4 - ndg x) 48 ++ ntx x := by
  have h1 : ndg x ≤ 4 := ndg_le_of (by omega) (by omega)
  have := fdg_pad (ndg x) x (ndg_lt x) (4 - ndg x)
  rwa [Nat.sub_add_cancel h1] at this
theorem ntx_limb {x r : Nat} (hr : 0 < r) (hx : x < 10000) : ntx (x + 10000 * r) = ntx r ++ fdg 4 x := by
  rw [ntx_big (by omega), ntx_big (n := (x + 10000 * r) / 10) (by omega), ntx_big (n := (x + 10000 * r) / 10 / 10) (by omega), ntx_big (n := (x + 10000 * r) / 10 / 10 / 10) (by omega)]
  have e : (x + 10000 * r) / 10 / 10 / 10 / 10 = r := by omega
  have e1 : (x + 10000 * r) / 10 / 10 / 10 % 10 = x / 10 / 10 / 10 % 10 := by omega
  have e2 : (x + 10000 * r) / 10 / 10 % 10 = x / 10 / 10 % 10 := by omega
  have e3 : (x + 10000 * r) / 10 % 10 = x / 10 % 10 := by omega
  have e4 : (x + 10000 * r) % 10 = x % 10 := by omega
  rw [e, e1, e2, e3, e4]
  simp [fdg]
theorem dval_nval (l : List UInt8) : dval l = nval l := by
  unfold dval nval
  congr 1
  funext a c
  rw [Nat.mul_comm]
theorem nval_append (a b : List UInt8) : nval (a ++ b) = 10 ^ b.length * nval a + nval b := by
  induction b using snoc_ind with
  | h0 => simp [nval]
  | h1 l c ih => rw [← List.append_assoc, nval_snoc, ih, nval_snoc, List.length_append, List.length_singleton, Nat.pow_succ, Nat.mul_add, ← Nat.add_assoc, Nat.mul_comm (10 ^ l.length) 10, Nat.mul_assoc]
end Go.Proofs.YtpoejheienohjaaGreatDoor
